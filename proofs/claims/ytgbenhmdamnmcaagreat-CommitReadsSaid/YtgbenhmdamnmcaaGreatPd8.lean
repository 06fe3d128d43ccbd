/- Part 8 of the proof. -/
import Derived.Test.YtgbenhmdamnmcaaGreatPd7
import Derived.Deep.OwnRows
set_option linter.unusedVariables false
namespace Go.Proofs.YtgbenhmdamnmcaaGreat
open Go.Proofs.Tryz
open Go.RowKit
section
variable {H:Hp} {w0 w:World} {L R:List Res} {A:Option Addr} {n c:Nat} {cv:Ky→Ky→Int} {fc:Nat}
theorem Wf {T T':List (Ky × Nat)} (P U Q V S:List (Ky × Nat)) {a b k:Int} (ha:a=P.length) (hb:b=(P.length:Int)+U.length+Q.length) (hk:k=U.length) (hT:T=P++(U++(Q++(V++S)))) (hT':T'=P++(V++(Q++(U++S)))) (hn:T.length=n) (hl:n≤1000000) (hU:U.length=V.length) (x4:Value) (hM:Mem H w0 (rowR 128 33 A n c (fTK T)::R) w):
  Calls prog 218 #[.slice A n c,.int .i64 a,.int .i64 b,.int .i64 k,x4] w fun en w'=>∃ v,en=.returned v∧v=.tuple #[]∧Mem H w0 (rowR 128 33 A n c (fTK T')::R) w':=by
 subst ha hb hk hT hT'
 exact aPt P U Q V S hn hl hU x4 hM
theorem aUc {T T':List (Ky × Nat)} (P X Y S:List (Ky × Nat)) {a m b:Int} (ha:a=P.length) (hm:m=(P.length:Int)+X.length) (hb:b=(P.length:Int)+X.length+Y.length) (hT:T=P++(X++(Y++S))) (hT':T'=P++(Y++(X++S))) (hX:0<X.length) (hY:0<Y.length) (hn:T.length=n) (hl:n≤1000000) (x4:Value) (hM:Mem H w0 (rowR 128 33 A n c (fTK T)::R) w):
  Calls prog 217 #[.slice A n c,.int .i64 a,.int .i64 m,.int .i64 b,x4] w fun en w'=>∃ v,en=.returned v∧v=.tuple #[]∧Mem H w0 (rowR 128 33 A n c (fTK T')::R) w':=by
 have hn2:P.length+X.length+Y.length+S.length=n:=by
  rw[hT]at hn
  simp only[List.length_append]at hn
  omega
 refine Hr ?_
 unfold Es
 (((refine Ab ?_ ?_));(focus omega);((refine Ab ?_ ?_));(focus omega))
 refine⟨fun v u w'=>∃ (E U V F':List (Ky × Nat)),v=.int .i64 U.length∧u=.int .i64 V.length∧0<U.length∧0<V.length∧E.length+U.length=X.length∧E.length+U.length+V.length+F'.length=X.length+Y.length∧E++(V++(U++F'))=Y++X∧Mem H w0 (rowR 128 33 A n c (fTK (P++(E++(U++(V++(F'++S))))))::R) w',fun v u _=>match v,u with | .int _ i,.int _ j=>i.toNat+j.toNat|_,_=>0,⟨[],X,Y,[],by rw[Value.int.injEq];refine⟨rfl,?_⟩;omega,by rw[Value.int.injEq];refine⟨rfl,?_⟩;omega,hX,hY,by simp,by simp,by simp,by rw[hT]at hM;simpa using hM⟩,?_⟩
 clear hM
 rintro v u w1 w2 ⟨E,U,V,F',rfl,rfl,hU,hV,hE,hEl,hEq,hM⟩
 have hTl:(P++(E++(U++(V++(F'++S))))).length=n:=by
  simp only[List.length_append]
  omega
 by_cases hij:U.length=V.length
 ·(((refine Bm trivial ?_ ?_));(focus (first|assumption|omega|with_reducible rfl|exact fun h=>Bool.noConfusion h));((refine Aj ?_;refine Ab ?_ ?_));(focus omega))
  refine Bi (Wf (P++E) U [] V (F'++S) (by rw[List.length_append];push_cast;omega) (by rw[List.length_append];simp only[List.length_nil];push_cast;omega) (by omega) (by simp only[List.append_assoc,List.nil_append]) rfl hTl hl hij x4 hM) ?_
  rintro v w3 ⟨rfl,hM⟩
  skip
  refine⟨_,rfl,rfl,?_⟩
  have e:(P++E)++(V++([]++(U++(F'++S))))=T':=by
   rw[hT',← List.append_assoc Y X S,← hEq]
   simp only[List.append_assoc,List.nil_append]
  rw[← e]
  exact hM
 by_cases hgt:V.length<U.length
 ·have e1:U=U.take V.length++U.drop V.length:=(List.take_append_drop _ _).symm
  have l1:(U.take V.length).length=V.length:=by rw[List.length_take];omega
  have l2:(U.drop V.length).length=U.length - V.length:=List.length_drop
  generalize U.take V.length=U1 at e1 l1
  generalize U.drop V.length=U2 at e1 l2
  (((refine Bt trivial ?_ ?_));(focus (first|assumption|omega|with_reducible rfl|exact fun h=>Bool.noConfusion h));((refine Am ?_;refine Bt trivial ?_ ?_));(focus (first|assumption|omega|with_reducible rfl|exact fun h=>Bool.noConfusion h));((refine Am ?_;refine Ab ?_ ?_));(focus omega))
  refine Bi (Wf (P++E) U1 U2 V (F'++S) (by rw[List.length_append];push_cast;omega) (by rw[List.length_append];push_cast;omega) (by omega) (by rw[e1];simp only[List.append_assoc]) rfl hTl hl l1 x4 hM) ?_
  rintro v w3 ⟨rfl,hM⟩
  (((refine Ab ?_ ?_));(focus omega))
  refine⟨⟨E++V,U2,U1,F',by rw[Value.int.injEq];refine⟨rfl,?_⟩;omega,by rw[Value.int.injEq];refine⟨rfl,?_⟩;omega,by omega,by omega,by rw[List.length_append];omega,by rw[List.length_append];omega,by rw[← hEq,e1];simp only[List.append_assoc],by simpa only [List.append_assoc] using hM⟩,by simp only;omega⟩
 ·have e1:V=V.take (V.length - U.length)++V.drop (V.length - U.length):=(List.take_append_drop _ _).symm
  have l1:(V.take (V.length - U.length)).length=V.length - U.length:=by rw[List.length_take];omega
  have l2:(V.drop (V.length - U.length)).length=U.length:=by rw[List.length_drop];omega
  generalize V.take (V.length - U.length)=V1 at e1 l1
  generalize V.drop (V.length - U.length)=V2 at e1 l2
  (((refine Bt trivial ?_ ?_));(focus (first|assumption|omega|with_reducible rfl|exact fun h=>Bool.noConfusion h));((refine Am ?_;refine Bm trivial ?_ ?_));(focus (first|assumption|omega|with_reducible rfl|exact fun h=>Bool.noConfusion h));((refine Aj ?_;refine Ab ?_ ?_));(focus omega);((refine Ab ?_ ?_));(focus omega);((refine Ab ?_ ?_));(focus omega))
  refine Bi (Wf (P++E) U V1 V2 (F'++S) (by rw[List.length_append];push_cast;omega) (by rw[List.length_append];push_cast;omega) (by omega) (by rw[e1];simp only[List.append_assoc]) rfl hTl hl l2.symm x4 hM) ?_
  rintro v w3 ⟨rfl,hM⟩
  (((refine Ab ?_ ?_));(focus omega))
  refine⟨⟨E,V2,V1,U++F',by rw[Value.int.injEq];refine⟨rfl,?_⟩;omega,by rw[Value.int.injEq];refine⟨rfl,?_⟩;omega,by omega,by omega,by omega,by rw[List.length_append];omega,by rw[← hEq,e1];simp only[List.append_assoc],by simpa only [List.append_assoc] using hM⟩,by simp only;omega⟩
end
section
variable {H:Hp} {w0 w:World} {L R:List Res} {A:Option Addr} {n c:Nat} {cv:Ky→Ky→Int} {fc:Nat}
theorem aIm [FunC prog fc] [hc:∀ x y:Ky,PurC prog fc [.agg (fl (Ky.fds x)).toArray,.agg (fl (Ky.fds y)).toArray] True (.int .i64 (cv x y))] (hW:SW (ltK cv)) {T:List (Ky × Nat)} (P M S:List (Ky × Nat)) {a b:Int} (ha:a=P.length) (hb:b=(P.length:Int)+M.length) (hT:T=P++(M++S)) (ht:M.Pairwise (fun p q=>p.2<q.2)) (hn:T.length=n) (hl:n≤1000000) (hM:Mem H w0 (rowR 128 33 A n c (fTK T)::R) w):
  Calls prog 214 #[.slice A n c,.int .i64 a,.int .i64 b,fv fc] w fun en w'=>∃ v,en=.returned v∧v=.tuple #[]∧∃ M',okR (ltK cv) M M'∧Mem H w0 (rowR 128 33 A n c (fTK (P++(M'++S)))::R) w':=by
 have hn2:P.length+M.length+S.length=n:=by
  rw[hT]at hn
  simp only[List.length_append]at hn
  omega
 refine Fl ?_
 unfold Dh
 (((refine Ab ?_ ?_));(focus omega))
 refine⟨fun v w'=>∃ (k:Nat) (M1:List (Ky × Nat)),v=.int .i64 ((P.length:Int)+k)∧1≤k∧(k≤M.length∨k=1)∧okR (ltK cv) (M.take k) M1∧Mem H w0 (rowR 128 33 A n c (fTK (P++(M1++(M.drop k++S))))::R) w',fun v _=>match v with | .int _ k=>n+2 - k.toNat|_=>0,⟨1,M.take 1,by rw[Value.int.injEq];refine⟨rfl,?_⟩;omega,by omega,.inr rfl,⟨.refl _,?_⟩,?_⟩,?_⟩
 ·cases M with
  | nil=>exact .nil
  | cons x r=>simp
 ·rw[← List.append_assoc (M.take 1),List.take_append_drop,← hT]
  exact hM
 clear hM
 rintro v u w1 ⟨k,M1,rfl,hk1,hk2,hok,hM⟩
 (((refine Aw trivial ?_ ?_)))
 ·intro hlt
  have hkl:k<M.length:=by omega
  have hl1:M1.length=k:=by
   rw[hok.1.length_eq,List.length_take]
   omega
  have hdr:M.drop k=M[k]::M.drop (k+1):=List.drop_eq_getElem_cons hkl
  have htag:∀ y∈M1,y.2<M[k].2:=fun y hy=>by
   have hy:=hok.1.mem_iff.1 hy
   obtain⟨j,hj,rfl⟩:=List.mem_take_iff_getElem.1 hy
   exact List.pairwise_iff_getElem.1 ht j k (by omega) hkl (by omega)
  obtain⟨x,hx⟩:∃ x,M[k]=x:=⟨_,rfl⟩
  rw[hx]at hdr htag
  (((refine Am ?_)))
  refine⟨fun v w'=>∃ (X Y:List (Ky × Nat)),v=.int .i64 ((P.length:Int)+X.length)∧X++Y=M1∧(∀ y∈Y,tl (ltK cv) x y)∧Mem H w0 (rowR 128 33 A n c (fTK (P++(X++x::(Y++(M.drop (k+1)++S)))))::R) w',fun v _=>match v with | .int _ k=>k.toNat|_=>0,⟨M1,[],by rw[hl1],by simp,by simp,by rw[hdr]at hM;simpa using hM⟩,?_⟩
  clear hM
  rintro v u2 w2 ⟨X,Y,rfl,hXY,hY,hM⟩
  have hXl:X.length≤k:=by
   rw[← hl1,← hXY,List.length_append]
   omega
  have hTl:(P++(X++x::(Y++(M.drop (k+1)++S)))).length=n:=by
   have:=congrArg List.length hXY
   simp only[List.length_append,List.length_cons,List.length_drop]at this ⊢
   omega
  have hexit:(X=[]∨∃ X' y,X=X'++[y]∧tl (ltK cv) y x)→okR (ltK cv) (M.take (k+1)) (X++x::Y):=fun he=>by
   refine⟨?_,bAf hW (by rw[hXY];exact hok.2) hY he⟩
   rw[List.take_succ_eq_append_getElem hkl,hx]
   refine List.perm_middle.trans ?_
   rw[hXY]
   exact((hok.1.cons x)).trans (List.perm_append_singleton x _).symm
  refine⟨fun w'=>∃ (X':List (Ky × Nat)) (y:Ky × Nat),X=X'++[y]∧tl (ltK cv) x y∧Mem H w0 (rowR 128 33 A n c (fTK (P++(X++x::(Y++(M.drop (k+1)++S)))))::R) w',?_,?_⟩
  ·rcases List.eq_nil_or_concat X with rfl|⟨X',y,hxx⟩
   ·have h0:([]:List (Ky × Nat)).length=0:=rfl
    (((refine Wp trivial ?_ ?_));(focus (first|assumption|omega|with_reducible rfl|exact fun h=>Bool.noConfusion h));(((iterate 10 refine Iz ?_);refine Bv ?_;refine Iz ?_;refine Ap trivial ?_;refine Bc hM ?_;clear hM;intro _ hM;refine Aj ?_;refine Ab ?_ ?_));(focus omega))
    refine⟨⟨k+1,[]++x::Y,by rw[Value.int.injEq];refine⟨rfl,?_⟩;push_cast;omega,by omega,.inl (by omega),hexit (.inl rfl),by simpa using hM⟩,by simp only;omega⟩
   ·rw[List.concat_eq_append]at hxx
    subst hxx
    have hT2:P++((X'++[y])++x::(Y++(M.drop (k+1)++S)))=(P++X')++y::([]++x::(Y++(M.drop (k+1)++S))):=by simp only[List.append_assoc,List.cons_append,List.nil_append]
    obtain⟨T2,hT3⟩:∃ T2,P++((X'++[y])++x::(Y++(M.drop (k+1)++S)))=T2:=⟨_,rfl⟩
    rw[hT3]at hM hTl hT2
    rw[List.length_append,List.length_singleton]at hXl ⊢
    have g1:∀ (q:Nat) (hq:q<T2.length),q=P.length+(X'.length+1)→T2[q]=x:=fun q hq e=>by
     subst e
     simp only[hT2]
     exact aIh _ _ _ _ _ (by rw[List.length_append];simp only[List.length_nil];omega) _
    have g2:∀ (q:Nat) (hq:q<T2.length),q=P.length+X'.length→T2[q]=y:=fun q hq e=>by
     subst e
     simp only[hT2]
     exact aIg _ _ _ _ _ (by rw[List.length_append]) _
    (((refine Wo trivial ?_ ?_));(focus (first|assumption|omega|with_reducible rfl|exact fun h=>Bool.noConfusion h));((refine Bg ?_;refine Ap trivial ?_;refine Bg ?_;refine Ap trivial ?_;refine Bg ?_;refine Ap trivial ?_;refine Bg ?_;refine Cj hM ?_ ?_));(focus omega);((intro _ hA));(cases hA);((refine Bg ?_;refine Cv hM (By ?_) ?_));(focus omega);((refine Bg ?_;refine Ap trivial ?_;refine Bg ?_;refine Ap trivial ?_;refine Bg ?_;refine Ap ?_ ?_));(focus omega);((refine Bg ?_;refine Cj hM ?_ ?_));(focus omega);((intro _ hA));(cases hA);((refine Bg ?_;refine Cv hM (Ct ?_) ?_));(focus omega);((refine Ae ?_;refine Bs hM ?_ (fun _ _ hM=>?_)));(focus (first|exact trivial|assumption|omega));((refine Bg ?_)))
    (((refine aRa trivial ?_ ?_)))
    ·intro hc
     rw[g1 _ _ (by omega),g2 _ _ (by omega)]at hc
     (((refine Ap trivial ?_;refine Bc hM ?_;clear hM;intro _ hM;refine Am ?_)))
     exact⟨X',y,rfl,.inl (decide_eq_true hc),by rw[hT3];exact hM⟩
    ·intro hc
     rw[g1 _ _ (by omega),g2 _ _ (by omega)]at hc
     (((refine Ap trivial ?_;refine Bc hM ?_;clear hM;intro _ hM;refine Aj ?_;refine Ab ?_ ?_));(focus omega))
     refine⟨⟨k+1,(X'++[y])++x::Y,by rw[Value.int.injEq];refine⟨rfl,?_⟩;push_cast;omega,by omega,.inl (by omega),hexit (.inr ⟨X',y,rfl,aIe _ _ (decide_eq_false hc) (htag y (by rw[← hXY];simp))⟩),?_⟩,by simp only;omega⟩
     rw[← hT3]at hM
     simpa only [List.append_assoc,List.cons_append] using hM
  clear hM
  rintro u3 w3 ⟨X',y,rfl,hxy,hM⟩
  have hT2:P++((X'++[y])++x::(Y++(M.drop (k+1)++S)))=(P++X')++y::([]++x::(Y++(M.drop (k+1)++S))):=by simp only[List.append_assoc,List.cons_append,List.nil_append]
  rw[hT2]at hM hTl
  rw[List.length_append,List.length_singleton]at hXl ⊢
  obtain⟨T2,hT3⟩:∃ T2,(P++X')++y::([]++x::(Y++(M.drop (k+1)++S)))=T2:=⟨_,rfl⟩
  rw[hT3]at hM hTl
  have p1:P.length+X'.length=(P++X').length:=by rw[List.length_append]
  have p2:P.length+(X'.length+1)=(P++X').length+1+([]:List (Ky × Nat)).length:=by rw[List.length_append];simp only[List.length_nil];omega
  have g1:∀ (q:Nat) (hq:q<T2.length),q=P.length+(X'.length+1)→T2[q]=x:=fun q hq e=>by
   subst e
   simp only[← hT3]
   exact aIh _ _ _ _ _ p2 _
  have g2:∀ (q:Nat) (hq:q<T2.length),q=P.length+X'.length→T2[q]=y:=fun q hq e=>by
   subst e
   simp only[← hT3]
   exact aIg _ _ _ _ _ p1 _
  (((refine Ap ?_ ?_));(focus omega);((refine Ap ?_ ?_));(focus omega);((refine Cj hM ?_ ?_));(focus omega);((intro _ hA));(cases hA);((refine Cv hM (Ct ?_) ?_));(focus omega);((refine Cj hM ?_ ?_));(focus omega);((intro _ hA));(cases hA);((refine Cv hM (By ?_) ?_));(focus omega);((refine Cj hM ?_ ?_));(focus omega);((intro _ hA));(cases hA))
  refine Ib hM (Ct (by omega)) (fun w' hM=>?_)
  (((refine Cj hM ?_ ?_));(focus omega);((intro _ hA));(cases hA))
  refine Ib hM (by rw[List.getElem?_set_ne (by omega)];exact Ct (by omega)) (fun w' hM=>?_)
  first|rw[g1 _ _ (by omega),g2 _ _ (by omega)]at hM|rw[g2 _ _ (by omega),g1 _ _ (by omega)]at hM
  have i1:((P.length:Int)+((X'.length+1:Nat):Int)).toNat=P.length+(X'.length+1):=by omega
  have i2:((P.length:Int)+((X'.length+1:Nat):Int) - 1).toNat=P.length+X'.length:=by omega
  rw[i1,i2]at hM
  have hs:((fTK T2).set (P.length+(X'.length+1)) (Ky.fds y.1)).set (P.length+X'.length) (Ky.fds x.1)=fTK ((P++X')++x::([]++y::(Y++(M.drop (k+1)++S)))):=by
   rw[← hT3]
   exact swpK' _ _ _ _ _ p1 p2
  have hM2:Mem H w0 (rowR 128 33 _ n c (((fTK T2).set (P.length+(X'.length+1)) (Ky.fds y.1)).set (P.length+X'.length) (Ky.fds x.1))::R) _:=hM
  rw[hs]at hM2
  have hM:=hM2
  clear hM2
  (((refine Bc hM ?_;clear hM;intro _ hM;refine Ab ?_ ?_));(focus omega))
  refine⟨⟨X',y::Y,by rw[Value.int.injEq];refine⟨rfl,?_⟩;omega,by rw[← hXY];simp,fun z hz=>?_,by simpa only [List.append_assoc,List.cons_append,List.nil_append] using hM⟩,by simp only;omega⟩
  rcases List.mem_cons.1 hz with rfl|hz
  ·exact hxy
  ·exact hY z hz
 ·intro hge
  (((refine Aj ?_)))
  have hk3:M.take k=M:=List.take_of_length_le (by omega)
  have hk4:M.drop k=[]:=List.drop_eq_nil_of_le (by omega)
  rw[hk3]at hok
  rw[hk4,List.nil_append]at hM
  exact⟨_,rfl,rfl,M1,hok,hM⟩
end
end Go.Proofs.YtgbenhmdamnmcaaGreat
namespace Go.Proofs.YtgbenhmdamnmcaaGreat
open Go.Proofs.Tryz
open Go.RowKit
section
variable {α:Type} {lt:α→α→Bool}
theorem aUd {X Y:List (α × Nat)} {x:α × Nat} (hp:(X++Y).Pairwise (tl lt)) (h1:∀ y∈X,tl lt y x) (h2:∀ y∈Y,tl lt x y):(X++x::Y).Pairwise (tl lt):=by
 obtain⟨a1,a2,a3⟩:=List.pairwise_append.1 hp
 refine List.pairwise_append.2 ⟨a1,List.pairwise_cons.2 ⟨h2,a2⟩,fun u hu v hv=>?_⟩
 rcases List.mem_cons.1 hv with rfl|hv
 ·exact h1 u hu
 ·exact a3 u hu v hv
theorem aMz (h:SW lt) {V:List (α × Nat)} (hp:V.Pairwise (tl lt)) {i:Nat} (hi:i<V.length) {x:α × Nat} (hx:tl lt V[i] x):∀ y∈V.take (i+1),tl lt y x:=fun y hy=>by
 obtain⟨j,hj,rfl⟩:=List.mem_take_iff_getElem.1 hy
 by_cases hc:j=i
 ·subst hc
  exact hx
 ·exact h.tlt (List.pairwise_iff_getElem.1 hp j i (by omega) hi (by omega)) hx
theorem aNa (h:SW lt) {V:List (α × Nat)} (hp:V.Pairwise (tl lt)) {i:Nat} (hi:i<V.length) {x:α × Nat} (hx:tl lt x V[i]):∀ y∈V.drop i,tl lt x y:=fun y hy=>by
 obtain⟨j,hj,rfl⟩:=List.mem_drop_iff_getElem.1 hy
 by_cases hc:j=0
 ·subst hc
  exact hx
 ·exact h.tlt hx (List.pairwise_iff_getElem.1 hp i (i+j) hi (by omega) (by omega))
theorem ends {U V:List (α × Nat)} {k j:Nat} (h:k=0∨j=V.length∨∃ (hk:k - 1<U.length) (hj:j<V.length),tl lt U[k - 1] V[j]):U.take k=[]∨V.drop j=[]∨∃ X' x y Y',U.take k=X'++[x]∧V.drop j=y::Y'∧tl lt x y:=by
 rcases h with rfl|rfl|⟨hk,hj,h⟩
 ·exact .inl rfl
 ·exact .inr (.inl (List.drop_length))
 ·by_cases h0:k=0
  ·exact .inl (by rw[h0];rfl)
  ·refine .inr (.inr ⟨U.take (k - 1),U[k - 1],V[j],V.drop (j+1),?_,List.drop_eq_getElem_cons hj,h⟩)
   rw[← List.take_succ_eq_append_getElem hk]
   congr 1
   omega
end
end Go.Proofs.YtgbenhmdamnmcaaGreat
namespace Go.Proofs.YtgbenhmdamnmcaaGreat
open Go.Proofs.Tryz
open Go.RowKit
section
variable {H:Hp} {w0 w:World} {L R:List Res} {A:Option Addr} {n c:Nat} {cv:Ky→Ky→Int} {fc:Nat}
theorem aUe [FunC prog fc] [hc:∀ x y:Ky,PurC prog fc [.agg (fl (Ky.fds x)).toArray,.agg (fl (Ky.fds y)).toArray] True (.int .i64 (cv x y))] (hW:SW (ltK cv)) {T:List (Ky × Nat)} (P V S:List (Ky × Nat)) (x:Ky × Nat) {a m b:Int} (ha:a=P.length) (hm:m=(P.length:Int)+1) (hb:b=(P.length:Int)+1+V.length) (hT:T=P++(x::(V++S))) (hV:V.Pairwise (tl (ltK cv))) (ht:∀ v∈V,x.2<v.2) (hn:T.length=n) (hl:n≤1000000) (hM:Mem H w0 (rowR 128 33 A n c (fTK T)::R) w):
  Calls prog 215 #[.slice A n c,.int .i64 a,.int .i64 m,.int .i64 b,fv fc] w fun en w'=>∃ v,en=.returned v∧v=.tuple #[]∧∃ M',M'.Perm (x::V)∧M'.Pairwise (tl (ltK cv))∧Mem H w0 (rowR 128 33 A n c (fTK (P++(M'++S)))::R) w':=by
 have hn2:P.length+1+V.length+S.length=n:=by
  rw[hT]at hn
  simp only[List.length_append,List.length_cons]at hn
  omega
 have g1:∀ (q:Nat) (hq:q<T.length),q=P.length→T[q]=x:=fun q hq e=>by
  subst e
  simp[hT]
 have g2:∀ (q:Nat) (hq:q<T.length) (i:Nat) (hi:i<V.length),q=P.length+1+i→T[q]=V[i]:=fun q hq i hi e=>by
  subst e
  simp only[hT]
  rw[List.getElem_append_right (by omega)]
  simp only[show P.length+1+i - P.length=i+1 by omega,List.getElem_cons_succ]
  rw[List.getElem_append_left hi]
 refine Cy ?_
 unfold Ck
 (((refine Ab ?_ ?_));(focus omega);((refine Bt trivial ?_ ?_));(focus (first|assumption|omega|with_reducible rfl|exact fun h=>Bool.noConfusion h));((refine Am ?_)))
 refine⟨fun v u w'=>∃ (I J:Nat),v=.int .i64 ((P.length:Int)+1+I)∧u=.int .i64 ((P.length:Int)+1+J)∧I≤J∧J≤V.length∧(∀ y∈V.take I,tl (ltK cv) y x)∧(∀ y∈V.drop J,tl (ltK cv) x y)∧hM.now w',fun v u _=>match v,u with | .int _ i,.int _ j=>j.toNat - i.toNat|_,_=>0,⟨0,V.length,by rw[Value.int.injEq];refine⟨rfl,?_⟩;omega,by rw[Value.int.injEq];refine⟨rfl,?_⟩;omega,by omega,by omega,by simp,by simp,hM⟩,?_⟩
 rintro v u u2 w2 ⟨I,J,rfl,rfl,hIJ,hJ,hI1,hJ1,hM⟩
 (((refine Aw trivial ?_ ?_)))
 ·intro hlt
  have hlt':I<J:=by omega
  (((refine Am ?_;refine Ab ?_ ?_));(focus omega);((refine Ab trivial ?_;refine Ab ?_ ?_));(focus omega))
  have e2:((P.length:Int)+1+I+(P.length+1+J))%18446744073709551616 / 2 ^ Int.toNat 1=(P.length:Int)+1+((I+J) / 2:Nat):=by
   rw[show(2:Int) ^ Int.toNat 1=2 from rfl]
   omega
  rw[e2]
  have hd:I≤(I+J) / 2∧(I+J) / 2<J:=by omega
  generalize (I+J) / 2=d at hd
  have hdl:d<V.length:=by omega
  (((refine Ab ?_ ?_));(focus omega);((refine Cj hM ?_ ?_));(focus omega);((intro _ hA));(cases hA);((refine Cv hM (Ct ?_) ?_));(focus omega);((refine Cj hM ?_ ?_));(focus omega);((intro _ hA));(cases hA);((refine Cv hM (Ct ?_) ?_));(focus omega);((refine Bs hM ?_ (fun _ _ hM=>?_)));(focus (first|exact trivial|assumption|omega)))
  (((refine aRa trivial ?_ ?_)))
  ·intro hcm
   rw[g2 _ _ d hdl (by omega),g1 _ _ (by omega)]at hcm
   (((refine Bc hM ?_;clear hM;intro _ hM;refine Am ?_;refine Ab ?_ ?_));(focus omega))
   exact⟨⟨d+1,J,by rw[Value.int.injEq];refine⟨rfl,?_⟩;push_cast;omega,rfl,by omega,hJ,aMz hW hV hdl (.inl (decide_eq_true hcm)),hJ1,hM⟩,by simp only;omega⟩
  ·intro hcm
   rw[g2 _ _ d hdl (by omega),g1 _ _ (by omega)]at hcm
   (((refine Bc hM ?_;clear hM;intro _ hM;refine Aj ?_)))
   exact⟨⟨I,d,rfl,rfl,by omega,by omega,hI1,aNa hW hV hdl (aIe _ _ (decide_eq_false hcm) (ht _ (List.getElem_mem hdl))),hM⟩,by simp only;omega⟩
 ·intro hge
  obtain rfl:I=J:=by omega
  (((refine Aj ?_)))
  have hM:Mem H w0 (rowR 128 33 A n c (fTK T)::R) _:=hM
  rw[hT]at hM
  clear g1 g2
  refine⟨fun v w'=>∃ q:Nat,v=.int .i64 ((P.length:Int)+q)∧q≤I∧Mem H w0 (rowR 128 33 A n c (fTK (P++(V.take q++x::(V.drop q++S))))::R) w',fun v _=>match v with | .int _ k=>n - k.toNat|_=>0,⟨0,by rw[Value.int.injEq];refine⟨rfl,?_⟩;omega,by omega,hM⟩,?_⟩
  clear hM
  rintro v u3 w3 ⟨q,rfl,hq,hM⟩
  (((refine Ab ?_ ?_));(focus omega))
  (((refine Aw trivial ?_ ?_)))
  ·intro hlt
   have hqv:q<V.length:=by omega
   have hTl:(P++(V.take q++x::(V.drop q++S))).length=n:=by
    simp only[List.length_append,List.length_cons,List.length_take,List.length_drop]
    omega
   have e1:P++(V.take q++x::(V.drop q++S))=(P++V.take q)++x::([]++V[q]::(V.drop (q+1)++S)):=by
    rw[List.drop_eq_getElem_cons hqv]
    simp only[List.append_assoc,List.cons_append,List.nil_append]
   have e2:P++(V.take (q+1)++x::(V.drop (q+1)++S))=(P++V.take q)++V[q]::([]++x::(V.drop (q+1)++S)):=by
    rw[List.take_succ_eq_append_getElem hqv]
    simp only[List.append_assoc,List.cons_append,List.nil_append]
   obtain⟨y,hy⟩:∃ y,V[q]=y:=⟨_,rfl⟩
   rw[hy]at e1 e2
   obtain⟨T2,hT2⟩:∃ T2,P++(V.take q++x::(V.drop q++S))=T2:=⟨_,rfl⟩
   rw[hT2]at hM hTl e1
   have p1:P.length+q=(P++V.take q).length:=by
    rw[List.length_append,List.length_take]
    omega
   have p2:P.length+q+1=(P++V.take q).length+1+([]:List (Ky × Nat)).length:=by
    rw[← p1]
    rfl
   have g1:∀ (k:Nat) (hk:k<T2.length),k=P.length+q→T2[k]=x:=fun k hk e=>by
    subst e
    simp only[e1]
    exact aIg _ _ _ _ _ p1 _
   have g2:∀ (k:Nat) (hk:k<T2.length),k=P.length+q+1→T2[k]=y:=fun k hk e=>by
    subst e
    simp only[e1]
    exact aIh _ _ _ _ _ p2 _
   (((refine Am ?_;refine Ap ?_ ?_));(focus omega);((refine Ap ?_ ?_));(focus omega);((refine Cj hM ?_ ?_));(focus omega);((intro _ hA));(cases hA);((refine Cv hM (Ct ?_) ?_));(focus omega);((refine Cj hM ?_ ?_));(focus omega);((intro _ hA));(cases hA);((refine Cv hM (By ?_) ?_));(focus omega);((refine Cj hM ?_ ?_));(focus omega);((intro _ hA));(cases hA))
   refine Ib hM (Ct (by omega)) (fun w' hM=>?_)
   (((refine Cj hM ?_ ?_));(focus omega);((intro _ hA));(cases hA))
   refine Ib hM (by rw[List.getElem?_set_ne (by omega)];exact Ct (by omega)) (fun w' hM=>?_)
   first|rw[g1 _ _ (by omega),g2 _ _ (by omega)]at hM|rw[g2 _ _ (by omega),g1 _ _ (by omega)]at hM
   have i1:((P.length:Int)+q).toNat=P.length+q:=by omega
   have i2:((P.length:Int)+q+1).toNat=P.length+q+1:=by omega
   rw[i1,i2]at hM
   have hs:((fTK T2).set (P.length+q) (Ky.fds y.1)).set (P.length+q+1) (Ky.fds x.1)=fTK (P++(V.take (q+1)++x::(V.drop (q+1)++S))):=by
    rw[e1,e2]
    exact swpK _ _ _ _ _ p1 p2
   have hM2:Mem H w0 (rowR 128 33 _ n c (((fTK T2).set (P.length+q) (Ky.fds y.1)).set (P.length+q+1) (Ky.fds x.1))::R) _:=hM
   rw[hs]at hM2
   have hM:=hM2
   clear hM2
   (((refine Bc hM ?_;clear hM;intro _ hM;refine Ab ?_ ?_));(focus omega))
   exact⟨⟨q+1,by rw[Value.int.injEq];refine⟨rfl,?_⟩;push_cast;omega,by omega,hM⟩,by simp only;omega⟩
  ·intro hge2
   obtain rfl:q=I:=by omega
   (((refine Aj ?_)))
   refine⟨_,rfl,rfl,V.take q++x::V.drop q,?_,aUd (by rw[List.take_append_drop];exact hV) hI1 hJ1,by simpa only [List.append_assoc,List.cons_append] using hM⟩
   refine List.perm_middle.trans ?_
   rw[List.take_append_drop]
theorem aUf [FunC prog fc] [hc:∀ x y:Ky,PurC prog fc [.agg (fl (Ky.fds x)).toArray,.agg (fl (Ky.fds y)).toArray] True (.int .i64 (cv x y))] (hW:SW (ltK cv)) {T:List (Ky × Nat)} (P V S:List (Ky × Nat)) (x:Ky × Nat) (hv1:V.length≠1) {a m b:Int} (ha:a=P.length) (hm:m=(P.length:Int)+V.length) (hb:b=(P.length:Int)+V.length+1) (hT:T=P++(V++x::S)) (hV:V.Pairwise (tl (ltK cv))) (ht:∀ v∈V,v.2<x.2) (hn:T.length=n) (hl:n≤1000000) (hM:Mem H w0 (rowR 128 33 A n c (fTK T)::R) w):
  Calls prog 215 #[.slice A n c,.int .i64 a,.int .i64 m,.int .i64 b,fv fc] w fun en w'=>∃ v,en=.returned v∧v=.tuple #[]∧∃ M',M'.Perm (V++[x])∧M'.Pairwise (tl (ltK cv))∧Mem H w0 (rowR 128 33 A n c (fTK (P++(M'++S)))::R) w':=by
 have hn2:P.length+1+V.length+S.length=n:=by
  rw[hT]at hn
  simp only[List.length_append,List.length_cons]at hn
  omega
 have g1:∀ (q:Nat) (hq:q<T.length),q=P.length+V.length→T[q]=x:=fun q hq e=>by
  subst e
  simp[hT]
 have g2:∀ (q:Nat) (hq:q<T.length) (i:Nat) (hi:i<V.length),q=P.length+i→T[q]=V[i]:=fun q hq i hi e=>by
  subst e
  simp only[hT]
  rw[List.getElem_append_right (by omega)]
  simp only[show P.length+i - P.length=i by omega]
  rw[List.getElem_append_left hi]
 refine Cy ?_
 unfold Ck
 (((refine Ab ?_ ?_));(focus omega);((refine Bm trivial ?_ ?_));(focus (first|assumption|omega|with_reducible rfl|exact fun h=>Bool.noConfusion h));((refine Aj ?_;refine Ab ?_ ?_));(focus omega);((refine Bt trivial ?_ ?_));(focus (first|assumption|omega|with_reducible rfl|exact fun h=>Bool.noConfusion h));((refine Am ?_)))
 refine⟨fun v u w'=>∃ (I J:Nat),v=.int .i64 ((P.length:Int)+I)∧u=.int .i64 ((P.length:Int)+J)∧I≤J∧J≤V.length∧(∀ y∈V.take I,tl (ltK cv) y x)∧(∀ y∈V.drop J,tl (ltK cv) x y)∧hM.now w',fun v u _=>match v,u with | .int _ i,.int _ j=>j.toNat - i.toNat|_,_=>0,⟨0,V.length,by rw[Value.int.injEq];refine⟨rfl,?_⟩;omega,by rw[Value.int.injEq];refine⟨rfl,?_⟩;omega,by omega,by omega,by simp,by simp,hM⟩,?_⟩
 rintro v u u2 w2 ⟨I,J,rfl,rfl,hIJ,hJ,hI1,hJ1,hM⟩
 (((refine Aw trivial ?_ ?_)))
 ·intro hlt
  have hlt':I<J:=by omega
  (((refine Am ?_;refine Ab ?_ ?_));(focus omega);((refine Ab trivial ?_;refine Ab ?_ ?_));(focus omega))
  have e2:((P.length:Int)+I+(P.length+J))%18446744073709551616 / 2 ^ Int.toNat 1=(P.length:Int)+((I+J) / 2:Nat):=by
   rw[show(2:Int) ^ Int.toNat 1=2 from rfl]
   omega
  rw[e2]
  have hd:I≤(I+J) / 2∧(I+J) / 2<J:=by omega
  generalize (I+J) / 2=d at hd
  have hdl:d<V.length:=by omega
  (((refine Ab ?_ ?_));(focus omega);((refine Cj hM ?_ ?_));(focus omega);((intro _ hA));(cases hA);((refine Cv hM (Ct ?_) ?_));(focus omega);((refine Cj hM ?_ ?_));(focus omega);((intro _ hA));(cases hA);((refine Cv hM (By ?_) ?_));(focus omega);((refine Bs hM ?_ (fun _ _ hM=>?_)));(focus (first|exact trivial|assumption|omega)))
  rw[g1 _ _ (by omega),g2 _ _ d hdl (by omega)]
  by_cases hcm:cv x.1 V[d].1<0
  ·(((refine Wo trivial ?_ ?_));(focus (first|assumption|omega|with_reducible rfl|exact fun h=>Bool.noConfusion h));((refine Ap trivial ?_;refine Bc hM ?_;clear hM;intro _ hM;refine Aj ?_)))
   exact⟨⟨I,d,rfl,rfl,by omega,by omega,hI1,aNa hW hV hdl (.inl (decide_eq_true hcm)),hM⟩,by simp only;omega⟩
  ·(((refine Wp trivial ?_ ?_));(focus (first|assumption|omega|with_reducible rfl|exact fun h=>Bool.noConfusion h));((refine Ap trivial ?_;refine Bc hM ?_;clear hM;intro _ hM;refine Am ?_;refine Ab ?_ ?_));(focus omega))
   exact⟨⟨d+1,J,by rw[Value.int.injEq];refine⟨rfl,?_⟩;push_cast;omega,rfl,by omega,hJ,aMz hW hV hdl (aIe _ _ (decide_eq_false hcm) (ht _ (List.getElem_mem hdl))),hJ1,hM⟩,by simp only;omega⟩
 ·intro hge
  obtain rfl:I=J:=by omega
  (((refine Aj ?_)))
  have hM:Mem H w0 (rowR 128 33 A n c (fTK T)::R) _:=hM
  rw[hT]at hM
  clear g1 g2
  refine⟨fun v w'=>∃ q:Nat,v=.int .i64 ((P.length:Int)+q)∧I≤q∧q≤V.length∧Mem H w0 (rowR 128 33 A n c (fTK (P++(V.take q++x::(V.drop q++S))))::R) w',fun v _=>match v with | .int _ k=>k.toNat|_=>0,⟨V.length,by rw[Value.int.injEq];refine⟨rfl,?_⟩;omega,by omega,by omega,by simpa using hM⟩,?_⟩
  clear hM
  rintro v u3 w3 ⟨q,rfl,hq,hq2,hM⟩
  (((refine Aw trivial ?_ ?_)))
  ·intro hlt
   obtain⟨q,rfl⟩:∃ q',q=q'+1:=⟨q - 1,by omega⟩
   have hqv:q<V.length:=by omega
   have hTl:(P++(V.take (q+1)++x::(V.drop (q+1)++S))).length=n:=by
    simp only[List.length_append,List.length_cons,List.length_take,List.length_drop]
    omega
   have e1:P++(V.take (q+1)++x::(V.drop (q+1)++S))=(P++V.take q)++V[q]::([]++x::(V.drop (q+1)++S)):=by
    rw[List.take_succ_eq_append_getElem hqv]
    simp only[List.append_assoc,List.cons_append,List.nil_append]
   have e2:P++(V.take q++x::(V.drop q++S))=(P++V.take q)++x::([]++V[q]::(V.drop (q+1)++S)):=by
    rw[List.drop_eq_getElem_cons hqv]
    simp only[List.append_assoc,List.cons_append,List.nil_append]
   obtain⟨y,hy⟩:∃ y,V[q]=y:=⟨_,rfl⟩
   rw[hy]at e1 e2
   obtain⟨T2,hT2⟩:∃ T2,P++(V.take (q+1)++x::(V.drop (q+1)++S))=T2:=⟨_,rfl⟩
   rw[hT2]at hM hTl e1
   have p1:P.length+q=(P++V.take q).length:=by
    rw[List.length_append,List.length_take]
    omega
   have p2:P.length+(q+1)=(P++V.take q).length+1+([]:List (Ky × Nat)).length:=by
    rw[← p1]
    rfl
   have g1:∀ (k:Nat) (hk:k<T2.length),k=P.length+(q+1)→T2[k]=x:=fun k hk e=>by
    subst e
    simp only[e1]
    exact aIh _ _ _ _ _ p2 _
   have g2:∀ (k:Nat) (hk:k<T2.length),k=P.length+q→T2[k]=y:=fun k hk e=>by
    subst e
    simp only[e1]
    exact aIg _ _ _ _ _ p1 _
   (((refine Am ?_;refine Ap ?_ ?_));(focus omega);((refine Ap ?_ ?_));(focus omega);((refine Cj hM ?_ ?_));(focus omega);((intro _ hA));(cases hA);((refine Cv hM (Ct ?_) ?_));(focus omega);((refine Cj hM ?_ ?_));(focus omega);((intro _ hA));(cases hA);((refine Cv hM (By ?_) ?_));(focus omega);((refine Cj hM ?_ ?_));(focus omega);((intro _ hA));(cases hA))
   refine Ib hM (Ct (by omega)) (fun w' hM=>?_)
   (((refine Cj hM ?_ ?_));(focus omega);((intro _ hA));(cases hA))
   refine Ib hM (by rw[List.getElem?_set_ne (by omega)];exact Ct (by omega)) (fun w' hM=>?_)
   first|rw[g1 _ _ (by omega),g2 _ _ (by omega)]at hM|rw[g2 _ _ (by omega),g1 _ _ (by omega)]at hM
   have i1:((P.length:Int)+((q+1:Nat):Int)).toNat=P.length+(q+1):=by omega
   have i2:((P.length:Int)+((q+1:Nat):Int) - 1).toNat=P.length+q:=by omega
   rw[i1,i2]at hM
   have hs:((fTK T2).set (P.length+(q+1)) (Ky.fds y.1)).set (P.length+q) (Ky.fds x.1)=fTK (P++(V.take q++x::(V.drop q++S))):=by
    rw[e1,e2]
    exact swpK' _ _ _ _ _ p1 p2
   have hM2:Mem H w0 (rowR 128 33 _ n c (((fTK T2).set (P.length+(q+1)) (Ky.fds y.1)).set (P.length+q) (Ky.fds x.1))::R) _:=hM
   rw[hs]at hM2
   have hM:=hM2
   clear hM2
   (((refine Bc hM ?_;clear hM;intro _ hM;refine Ab ?_ ?_));(focus omega))
   exact⟨⟨q,by rw[Value.int.injEq];refine⟨rfl,?_⟩;push_cast;omega,by omega,by omega,hM⟩,by simp only;omega⟩
  ·intro hge2
   obtain rfl:q=I:=by omega
   (((refine Aj ?_)))
   refine⟨_,rfl,rfl,V.take q++x::V.drop q,?_,aUd (by rw[List.take_append_drop];exact hV) hI1 hJ1,by simpa only [List.append_assoc,List.cons_append] using hM⟩
   refine List.perm_middle.trans ?_
   rw[List.take_append_drop]
   exact(List.perm_append_singleton x V).symm
end
end Go.Proofs.YtgbenhmdamnmcaaGreat
namespace Go.Proofs.YtgbenhmdamnmcaaGreat
open Go.Proofs.Tryz
open Go.RowKit
section
variable {H:Hp} {w0 w:World} {L R:List Res} {A:Option Addr} {n c:Nat} {cv:Ky→Ky→Int} {fc:Nat}
def symSK (H:Hp) (w0:World) (R:List Res) (A:Option Addr) (n c:Nat) (cv:Ky→Ky→Int) (fc N:Nat):Prop:=
 ∀ (T P U V S:List (Ky × Nat)) (a m b:Int) (w:World),a=P.length→m=(P.length:Int)+U.length→b=(P.length:Int)+U.length+V.length→T=P++(U++(V++S))→0<U.length→0<V.length→U.length+V.length<N→U.Pairwise (tl (ltK cv))→V.Pairwise (tl (ltK cv))→(∀ u∈U,∀ v∈V,u.2<v.2)→T.length=n→Mem H w0 (rowR 128 33 A n c (fTK T)::R) w →
   Calls prog 215 #[.slice A n c,.int .i64 a,.int .i64 m,.int .i64 b,fv fc] w fun en w'=>∃ v,en=.returned v∧v=.tuple #[]∧∃ M',M'.Perm (U++V)∧M'.Pairwise (tl (ltK cv))∧Mem H w0 (rowR 128 33 A n c (fTK (P++(M'++S)))::R) w'
theorem aUg [FunC prog fc] [hc:∀ x y:Ky,PurC prog fc [.agg (fl (Ky.fds x)).toArray,.agg (fl (Ky.fds y)).toArray] True (.int .i64 (cv x y))] (hW:SW (ltK cv)) (hl:n≤1000000) {N:Nat} (ih:symSK H w0 R A n c cv fc N) {T:List (Ky × Nat)} (P U V S:List (Ky × Nat)) {a m b:Int} (ha:a=P.length) (hm:m=(P.length:Int)+U.length) (hb:b=(P.length:Int)+U.length+V.length) (hT:T=P++(U++(V++S))) (hu1:1<U.length) (hv1:1<V.length) (hN:U.length+V.length<N+1) (hU:U.Pairwise (tl (ltK cv))) (hV:V.Pairwise (tl (ltK cv))) (ht:∀ u∈U,∀ v∈V,u.2<v.2) (hn:T.length=n) (hM:Mem H w0 (rowR 128 33 A n c (fTK T)::R) w):
  Calls prog 215 #[.slice A n c,.int .i64 a,.int .i64 m,.int .i64 b,fv fc] w fun en w'=>∃ v,en=.returned v∧v=.tuple #[]∧∃ M',M'.Perm (U++V)∧M'.Pairwise (tl (ltK cv))∧Mem H w0 (rowR 128 33 A n c (fTK (P++(M'++S)))::R) w':=by
 subst ha hm hb
 have hn2:P.length+U.length+V.length+S.length=n:=by
  rw[hT]at hn
  simp only[List.length_append]at hn
  omega
 have g1:∀ (q:Nat) (hq:q<T.length) (i:Nat) (hi:i<U.length),q=P.length+i→T[q]=U[i]:=fun q hq i hi e=>by
  subst e
  simp only[hT]
  rw[List.getElem_append_right (by omega)]
  simp only[show P.length+i - P.length=i by omega]
  rw[List.getElem_append_left hi]
 have g2:∀ (q:Nat) (hq:q<T.length) (i:Nat) (hi:i<V.length),q=P.length+U.length+i→T[q]=V[i]:=fun q hq i hi e=>by
  subst e
  simp only[hT]
  rw[List.getElem_append_right (by omega)]
  simp only[show P.length+U.length+i - P.length=U.length+i by omega]
  rw[List.getElem_append_right (by omega)]
  simp only[show U.length+i - U.length=i by omega]
  rw[List.getElem_append_left hi]
 refine Cy ?_
 unfold Ck
 (((refine Ab ?_ ?_));(focus omega);((refine Bm trivial ?_ ?_));(focus (first|assumption|omega|with_reducible rfl|exact fun h=>Bool.noConfusion h));((refine Aj ?_;refine Ab ?_ ?_));(focus omega);((refine Bm trivial ?_ ?_));(focus (first|assumption|omega|with_reducible rfl|exact fun h=>Bool.noConfusion h));((refine Aj ?_;refine Ab ?_ ?_));(focus omega);((refine Ab trivial ?_;refine Ab ?_ ?_));(focus omega))
 have e0:((P.length:Int)+(P.length+U.length+V.length))%18446744073709551616 / 2 ^ Int.toNat 1=(P.length:Int)+((U.length+V.length) / 2:Nat):=by
  rw[show(2:Int) ^ Int.toNat 1=2 from rfl]
  omega
 rw[e0]
 have hmu:2*((U.length+V.length) / 2)≤U.length+V.length∧U.length+V.length≤2*((U.length+V.length) / 2)+1:=by omega
 generalize (U.length+V.length) / 2=mu at hmu
 obtain⟨lo,hi,z1,z2,z3,z4,z5,z6,zd⟩:∃ lo hi:Nat,lo≤hi∧hi≤U.length∧hi≤mu∧mu≤lo+V.length∧(lo=0∨mu=lo+V.length)∧(hi=U.length∨hi=mu)∧((mu<U.length∧lo=mu - V.length∧hi=mu∧V.length≤mu)∨(¬mu<U.length∧lo=0∧hi=U.length)):=by
  by_cases hc:mu<U.length
  ·exact⟨mu - V.length,mu,by omega,by omega,by omega,by omega,by omega,by omega,by omega⟩
  ·exact⟨0,U.length,by omega,by omega,by omega,by omega,by omega,by omega,by omega⟩
 (((refine Ab ?_ ?_));(focus omega);((refine Ab ?_ ?_));(focus omega))
 refine⟨fun v u w'=>v=.int .i64 ((P.length:Int)+lo)∧u=.int .i64 ((P.length:Int)+hi)∧hM.now w',?_,?_⟩
 ·skip
  (((refine Aw trivial ?_ ?_)))
  ·intro hc
   (((refine Am ?_;refine Ab ?_ ?_));(focus omega))
   exact⟨by rw[Value.int.injEq];refine⟨rfl,?_⟩;omega,by rw[Value.int.injEq];refine⟨rfl,?_⟩;omega,hM⟩
  ·intro hc
   (((refine Aj ?_)))
   exact⟨by rw[Value.int.injEq];refine⟨rfl,?_⟩;omega,by rw[Value.int.injEq];refine⟨rfl,?_⟩;omega,hM⟩
 clear zd
 rintro v u u2 w2 ⟨rfl,rfl,hM⟩
 (((refine Ab ?_ ?_));(focus omega))
 refine⟨fun v u w'=>∃ (I J:Nat),v=.int .i64 ((P.length:Int)+I)∧u=.int .i64 ((P.length:Int)+J)∧lo≤I∧I≤J∧J≤hi∧(I=lo∨∃ (i j:Nat) (hi:i<U.length) (hj:j<V.length),i+1=I∧j+I=mu∧tl (ltK cv) U[i] V[j])∧(J=hi∨∃ (i j:Nat) (hi:i<U.length) (hj:j<V.length),i=J∧j+1+J=mu∧tl (ltK cv) V[j] U[i])∧hM.now w',fun v u _=>match v,u with | .int _ i,.int _ j=>j.toNat - i.toNat|_,_=>0,⟨lo,hi,rfl,rfl,by omega,by omega,by omega,.inl rfl,.inl rfl,hM⟩,?_⟩
 rintro v u u2 w2 ⟨I,J,rfl,rfl,hI0,hIJ,hJ0,hI1,hJ1,hM⟩
 (((refine Aw trivial ?_ ?_)))
 ·intro hlt
  have hlt':I<J:=by omega
  (((refine Am ?_;refine Ab ?_ ?_));(focus omega);((refine Ab trivial ?_;refine Ab ?_ ?_));(focus omega))
  have e2:((P.length:Int)+I+(P.length+J))%18446744073709551616 / 2 ^ Int.toNat 1=(P.length:Int)+((I+J) / 2:Nat):=by
   rw[show(2:Int) ^ Int.toNat 1=2 from rfl]
   omega
  rw[e2]
  have hd:I≤(I+J) / 2∧(I+J) / 2<J:=by omega
  generalize (I+J) / 2=d at hd
  have hdu:d<U.length:=by omega
  have hdv:mu - 1 - d<V.length:=by omega
  (((refine Ab ?_ ?_));(focus omega);((refine Ap ?_ ?_));(focus omega);((refine Cj hM ?_ ?_));(focus omega);((intro _ hA));(cases hA);((refine Cv hM (Ct ?_) ?_));(focus omega);((refine Cj hM ?_ ?_));(focus omega);((intro _ hA));(cases hA);((refine Cv hM (By ?_) ?_));(focus omega);((refine Bs hM ?_ (fun _ _ hM=>?_)));(focus (first|exact trivial|assumption|omega)))
  rw[g2 _ _ (mu - 1 - d) hdv (by omega),g1 _ _ d hdu (by omega)]
  by_cases hcm:cv V[mu - 1 - d].1 U[d].1<0
  ·(((refine Wo trivial ?_ ?_));(focus (first|assumption|omega|with_reducible rfl|exact fun h=>Bool.noConfusion h));((refine Ap trivial ?_;refine Bc hM ?_;clear hM;intro _ hM;refine Aj ?_)))
   exact⟨⟨I,d,rfl,rfl,by omega,by omega,by omega,hI1,.inr ⟨d,mu - 1 - d,hdu,hdv,rfl,by omega,.inl (decide_eq_true hcm)⟩,hM⟩,by simp only;omega⟩
  ·(((refine Wp trivial ?_ ?_));(focus (first|assumption|omega|with_reducible rfl|exact fun h=>Bool.noConfusion h));((refine Ap trivial ?_;refine Bc hM ?_;clear hM;intro _ hM;refine Am ?_;refine Ab ?_ ?_));(focus omega))
   exact⟨⟨d+1,J,by rw[Value.int.injEq];refine⟨rfl,?_⟩;push_cast;omega,rfl,by omega,by omega,by omega,.inr ⟨d,mu - 1 - d,hdu,hdv,rfl,by omega,aIe _ _ (decide_eq_false hcm) (ht _ (List.getElem_mem hdu) _ (List.getElem_mem hdv))⟩,hJ1,hM⟩,by simp only;omega⟩
 intro hge
 obtain rfl:I=J:=by omega
 obtain⟨j,hj⟩:∃ j,I+j=mu:=⟨mu - I,by omega⟩
 have c1:U.take I=[]∨V.drop j=[]∨∃ X' x y Y',U.take I=X'++[x]∧V.drop j=y::Y'∧tl (ltK cv) x y:=by
  refine ends ?_
  rcases hI1 with h|⟨i',j',h1,h2,h3,h4,h5⟩
  ·omega
  ·obtain rfl:j'=j:=by omega
   obtain rfl:i'=I - 1:=by omega
   exact .inr (.inr ⟨h1,h2,h5⟩)
 have c2:V.take j=[]∨U.drop I=[]∨∃ X' x y Y',V.take j=X'++[x]∧U.drop I=y::Y'∧tl (ltK cv) x y:=by
  refine ends ?_
  rcases hJ1 with h|⟨i',j',h1,h2,h3,h4,h5⟩
  ·omega
  ·obtain rfl:j'=j - 1:=by omega
   obtain rfl:i'=I:=by omega
   exact .inr (.inr ⟨h2,h1,h5⟩)
 have eU:U=U.take I++U.drop I:=(List.take_append_drop _ _).symm
 have eV:V=V.take j++V.drop j:=(List.take_append_drop _ _).symm
 have lU:(U.take I).length=I:=by rw[List.length_take];omega
 have lV:(V.take j).length=j:=by rw[List.length_take];omega
 have lU2:(U.drop I).length+I=U.length:=by rw[List.length_drop];omega
 have lV2:(V.drop j).length+j=V.length:=by rw[List.length_drop];omega
 clear hI1 hJ1 g1 g2
 generalize U.take I=U1 at *
 generalize U.drop I=U2 at *
 generalize V.take j=V1 at *
 generalize V.drop j=V2 at *
 have hT2:T=(P++U1)++(U2++(V1++(V2++S))):=by
  rw[hT,eU,eV]
  simp only[List.append_assoc]
 rw[eU]at hU
 rw[eV]at hV
 have t1:∀ u∈U1,∀ v∈V1,u.2<v.2:=fun u hu v hv=>ht u (by rw[eU];exact List.mem_append_left _ hu) v (by rw[eV];exact List.mem_append_left _ hv)
 have t2:∀ u∈U2,∀ v∈V2,u.2<v.2:=fun u hu v hv=>ht u (by rw[eU];exact List.mem_append_right _ hu) v (by rw[eV];exact List.mem_append_right _ hv)
 obtain⟨sU1,sU2,-⟩:=List.pairwise_append.1 hU
 obtain⟨sV1,sV2,-⟩:=List.pairwise_append.1 hV
 (((refine Aj ?_;refine Ab ?_ ?_));(focus omega))
 have hM:Mem H w0 (rowR 128 33 A n c (fTK T)::R) _:=hM
 refine⟨fun w'=>Mem H w0 (rowR 128 33 A n c (fTK ((P++U1)++(V1++(U2++(V2++S)))))::R) w',?_,?_⟩
 ·refine⟨fun v w'=>v=.bool (decide (0<U2.length∧0<V1.length))∧hM.now w',?_,?_⟩
  ·skip
   (((refine Aw trivial ?_ ?_)))
   ·intro k1
    (((refine Ae ?_;refine Ab trivial ?_;refine Ae ?_;refine Ab trivial ?_;refine Ae ?_)))
    (((refine Aw trivial ?_ ?_)))
    ·intro k2
     (((refine Ab trivial ?_)))
     exact⟨by rw[decide_eq_true (by omega)],hM⟩
    ·intro k2
     (((refine Ab trivial ?_)))
     exact⟨by rw[decide_eq_false (by omega)],hM⟩
   ·intro k1
    ((((iterate 3 refine Bv ?_);refine Ab trivial ?_)))
    exact⟨by rw[decide_eq_false (by omega)],hM⟩
  rintro v u3 w3 ⟨rfl,hM⟩
  by_cases hc:0<U2.length∧0<V1.length
  ·rw[decide_eq_true hc]
   (((refine Am ?_)))
   refine Bi (aUc (P++U1) U2 V1 (V2++S) (by rw[List.length_append];push_cast;omega) (by rw[List.length_append];push_cast;omega) (by rw[List.length_append];push_cast;omega) hT2 rfl hc.1 hc.2 hn hl _ hM) ?_
   rintro v w4 ⟨rfl,hM⟩
   skip
   exact hM
  ·rw[decide_eq_false hc]
   (((refine Aj ?_)))
   have hM:Mem H w0 (rowR 128 33 A n c (fTK T)::R) _:=hM
   rw[hT2]at hM
   rcases Decidable.not_and_iff_or_not.1 hc with h|h
   ·obtain rfl:U2=[]:=List.eq_nil_of_length_eq_zero (by omega)
    exact hM
   ·obtain rfl:V1=[]:=List.eq_nil_of_length_eq_zero (by omega)
    exact hM
 clear hM
 rintro u3 w3 hM
 rw[show(P++U1)++(V1++(U2++(V2++S)))=P++(U1++(V1++(U2++(V2++S)))) by simp only[List.append_assoc]]at hM
 refine⟨fun w'=>∃ M1:List (Ky × Nat),M1.Perm (U1++V1)∧M1.Pairwise (tl (ltK cv))∧Mem H w0 (rowR 128 33 A n c (fTK (P++(M1++(U2++(V2++S)))))::R) w',?_,?_⟩
 ·refine⟨fun v w'=>v=.bool (decide (0<U1.length∧0<V1.length))∧hM.now w',?_,?_⟩
  ·skip
   (((refine Aw trivial ?_ ?_)))
   ·intro k1
    (((refine Ae ?_;refine Ab trivial ?_;refine Ae ?_;refine Ab trivial ?_;refine Ae ?_)))
    (((refine Aw trivial ?_ ?_)))
    ·intro k2
     (((refine Ab trivial ?_)))
     exact⟨by rw[decide_eq_true (by omega)],hM⟩
    ·intro k2
     (((refine Ab trivial ?_)))
     exact⟨by rw[decide_eq_false (by omega)],hM⟩
   ·intro k1
    ((((iterate 3 refine Bv ?_);refine Ab trivial ?_)))
    exact⟨by rw[decide_eq_false (by omega)],hM⟩
  rintro v u4 w4 ⟨rfl,hM⟩
  by_cases hc:0<U1.length∧0<V1.length
  ·rw[decide_eq_true hc]
   (((refine Am ?_)))
   refine Bi (ih _ P U1 V1 (U2++(V2++S)) _ _ _ _ (by omega) (by omega) (by omega) rfl hc.1 hc.2 (by omega) sU1 sV1 t1 (by simp only[List.length_append];omega) hM) ?_
   rintro v w5 ⟨rfl,M1,p1,s1,hM⟩
   skip
   exact⟨M1,p1,s1,hM⟩
  ·rw[decide_eq_false hc]
   (((refine Aj ?_)))
   have hM:Mem H w0 (rowR 128 33 A n c (fTK (P++(U1++(V1++(U2++(V2++S))))))::R) _:=hM
   rw[← List.append_assoc U1]at hM
   refine⟨U1++V1,.refl _,?_,hM⟩
   rcases Decidable.not_and_iff_or_not.1 hc with h|h
   ·obtain rfl:U1=[]:=List.eq_nil_of_length_eq_zero (by omega)
    exact sV1
   ·obtain rfl:V1=[]:=List.eq_nil_of_length_eq_zero (by omega)
    rw[List.append_nil]
    exact sU1
 clear hM
 rintro u5 w5 ⟨M1,p1,s1,hM⟩
 have l1:=p1.length_eq
 rw[List.length_append]at l1
 have hfin:∀ M2:List (Ky × Nat),M2.Perm (U2++V2)→M2.Pairwise (tl (ltK cv))→(M1++M2).Perm (U++V)∧(M1++M2).Pairwise (tl (ltK cv)):=fun M2 p2 s2=>by
  refine⟨?_,aXb hW hU hV p1 p2 s1 s2 c1 c2⟩
  rw[eU,eV]
  refine(p1.append p2).trans ?_
  simp only[List.append_assoc]
  refine List.Perm.append_left _ ?_
  rw[← List.append_assoc,← List.append_assoc U2]
  exact List.Perm.append_right _ List.perm_append_comm
 refine⟨fun v w'=>v=.bool (decide (0<U2.length∧0<V2.length))∧hM.now w',?_,?_⟩
 ·skip
  (((refine Aw trivial ?_ ?_)))
  ·intro k1
   (((refine Ae ?_;refine Ab trivial ?_;refine Ae ?_;refine Ab trivial ?_;refine Ae ?_)))
   (((refine Aw trivial ?_ ?_)))
   ·intro k2
    (((refine Ab trivial ?_)))
    exact⟨by rw[decide_eq_true (by omega)],hM⟩
   ·intro k2
    (((refine Ab trivial ?_)))
    exact⟨by rw[decide_eq_false (by omega)],hM⟩
  ·intro k1
   ((((iterate 3 refine Bv ?_);refine Ab trivial ?_)))
   exact⟨by rw[decide_eq_false (by omega)],hM⟩
 rintro v u6 w6 ⟨rfl,hM⟩
 have hM:Mem H w0 (rowR 128 33 A n c (fTK (P++(M1++(U2++(V2++S)))))::R) _:=hM
 rw[← List.append_assoc P]at hM
 by_cases hc:0<U2.length∧0<V2.length
 ·rw[decide_eq_true hc]
  (((refine Am ?_)))
  refine Bi (ih _ (P++M1) U2 V2 S _ _ _ _ (by rw[List.length_append];push_cast;omega) (by rw[List.length_append];push_cast;omega) (by rw[List.length_append];push_cast;omega) rfl hc.1 hc.2 (by omega) sU2 sV2 t2 (by simp only[List.length_append];omega) hM) ?_
  rintro v w7 ⟨rfl,M2,p2,s2,hM⟩
  skip
  exact⟨_,rfl,rfl,M1++M2,(hfin M2 p2 s2).1,(hfin M2 p2 s2).2,by simpa only [List.append_assoc] using hM⟩
 ·rw[decide_eq_false hc]
  (((refine Aj ?_)))
  have h2:=hfin (U2++V2) (.refl _) (by
   rcases Decidable.not_and_iff_or_not.1 hc with h|h
   ·obtain rfl:U2=[]:=List.eq_nil_of_length_eq_zero (by omega)
    exact sV2
   ·obtain rfl:V2=[]:=List.eq_nil_of_length_eq_zero (by omega)
    rw[List.append_nil]
    exact sU2)
  exact⟨_,rfl,rfl,M1++(U2++V2),h2.1,h2.2,by simpa only [List.append_assoc] using hM⟩
theorem aIn [FunC prog fc] [hc:∀ x y:Ky,PurC prog fc [.agg (fl (Ky.fds x)).toArray,.agg (fl (Ky.fds y)).toArray] True (.int .i64 (cv x y))] (hW:SW (ltK cv)) (hl:n≤1000000):∀ N,symSK H w0 R A n c cv fc N:=by
 intro N
 induction N with
 | zero=>intro T P U V S a m b w ha hm hb hT hu hv hN
         omega
 | succ N ih=>
   intro T P U V S a m b w ha hm hb hT hu hv hN hU hV ht hn hM
   by_cases h1:U.length=1
   ·obtain⟨x,rfl⟩:=List.length_eq_one_iff.1 h1
    exact aUe hW P V S x ha (by simpa using hm) (by simpa using hb) (by simpa using hT) hV (fun v hv=>ht x (by simp) v hv) hn hl hM
   by_cases h2:V.length=1
   ·obtain⟨x,rfl⟩:=List.length_eq_one_iff.1 h2
    exact aUf hW P U S x h1 ha (by simpa using hm) (by simpa using hb) (by simpa using hT) hU (fun u hu=>ht u hu x (by simp)) hn hl hM
   exact aUg hW hl ih P U V S ha hm hb hT (by omega) (by omega) hN hU hV ht hn hM
end
end Go.Proofs.YtgbenhmdamnmcaaGreat
namespace Go.Proofs.YtgbenhmdamnmcaaGreat
open Go.Proofs.Tryz
open Go.RowKit
section
variable {H:Hp} {w0 w:World} {L R:List Res} {A:Option Addr} {n c:Nat} {cv:Ky→Ky→Int} {fc:Nat}
theorem aPu [FunC prog fc] [hc:∀ x y:Ky,PurC prog fc [.agg (fl (Ky.fds x)).toArray,.agg (fl (Ky.fds y)).toArray] True (.int .i64 (cv x y))] (hW:SW (ltK cv)) (hl:n≤1000000) (T0:List (Ky × Nat)) (ht:T0.Pairwise (fun p q=>p.2<q.2)) (hn:T0.length=n) (hM:Mem H w0 (rowR 128 33 A n c (fTK T0)::R) w):
  Calls prog 211 #[.slice A n c,.int .i64 n,fv fc] w fun en w'=>∃ v,en=.returned v∧v=.tuple #[]∧∃ T,okR (ltK cv) T0 T∧Mem H w0 (rowR 128 33 A n c (fTK T)::R) w':=by
 have hsub:∀ {X Y Z:List (Ky × Nat)},T0=X++(Y++Z)→Y.Pairwise (fun p q=>p.2<q.2):=fun {X Y Z} e=>by
  rw[e]at ht
  exact(List.pairwise_append.1 (List.pairwise_append.1 ht).2.1).1
 have hcr:∀ {X Y Z W:List (Ky × Nat)},T0=X++(Y++(Z++W))→∀ {U V:List (Ky × Nat)},U.Perm Y→V.Perm Z→∀ u∈U,∀ v∈V,u.2<v.2:=fun {X Y Z W} e {U V} p1 p2 u hu v hv=>by
  rw[e]at ht
  exact(List.pairwise_append.1 (List.pairwise_append.1 ht).2.1).2.2 u (p1.mem_iff.1 hu) v (List.mem_append_left _ (p2.mem_iff.1 hv))
 refine Hq ?_
 unfold Er
 refine⟨fun v u w'=>∃ (A0 A1 Z:List (Ky × Nat)),v=.int .i64 A1.length∧u=.int .i64 ((A1.length:Int)+20)∧T0=A0++Z∧RunsF (ltK cv) 20 A0 A1∧Mem H w0 (rowR 128 33 A n c (fTK (A1++Z))::R) w',fun v _ _=>match v with | .int _ k=>n+1 - k.toNat|_=>0,⟨[],[],T0,rfl,rfl,rfl,.nil,hM⟩,?_⟩
 clear hM
 rintro v u u2 w2 ⟨A0,A1,Z,rfl,rfl,hT,hA,hM⟩
 have hal:=hA.len
 have hlen:A1.length+Z.length=n:=by
  rw[hT,List.length_append]at hn
  omega
 (((refine Aw trivial ?_ ?_)))
 ·intro hle
  (((refine Am ?_)))
  have eZ:Z=Z.take 20++Z.drop 20:=(List.take_append_drop _ _).symm
  have lZ:(Z.take 20).length=20:=by rw[List.length_take];omega
  generalize Z.take 20=Z1 at eZ lZ
  generalize Z.drop 20=Z2 at eZ
  subst eZ
  refine Bi (aIm (cv:=cv) hW A1 Z1 Z2 rfl (by omega) rfl (hsub hT) (by rw[List.length_append];exact hlen) hl hM) ?_
  rintro v w3 ⟨rfl,M',hok,hM⟩
  have hml:=hok.1.length_eq
  (((refine Ab ?_ ?_));(focus omega))
  exact⟨⟨A0++Z1,A1++M',Z2,by rw[Value.int.injEq];refine⟨rfl,?_⟩;rw[List.length_append];push_cast;omega,by rw[Value.int.injEq];refine⟨rfl,?_⟩;rw[List.length_append];push_cast;omega,by rw[hT,List.append_assoc],.snoc hA hok (by omega),by rw[List.append_assoc];exact hM⟩,by simp only;omega⟩
 intro hgt
 (((refine Aj ?_)))
 refine Bi (aIm (cv:=cv) hW A1 Z [] rfl (by omega) (by rw[List.append_nil]) (hsub (X:=A0) (Z:=[]) (by rw[List.append_nil];exact hT)) (by rw[List.length_append];exact hlen) hl hM) ?_
 clear hM
 rintro v w3 ⟨rfl,M',hok,hM⟩
 rw[List.append_nil]at hM
 have hml:=hok.1.length_eq
 have hr0:Runs (ltK cv) 20 T0 (A1++M'):=by
  rw[hT]
  exact hA.app (.last hok (by omega))
 generalize A1++M'=T1 at hr0 hM
 clear hT hA hal hlen hok hml hgt
 refine⟨fun v w'=>∃ (bs:Nat) (T:List (Ky × Nat)),v=.int .i64 bs∧20≤bs∧bs≤2000000∧Runs (ltK cv) bs T0 T∧Mem H w0 (rowR 128 33 A n c (fTK T)::R) w',fun v _=>match v with | .int _ k=>n+1 - k.toNat|_=>0,⟨20,T1,rfl,by omega,by omega,hr0,hM⟩,?_⟩
 clear hM hr0
 rintro v u3 w4 ⟨bs,T,rfl,hb1,hb2,hr,hM⟩
 have htl:=hr.len
 (((refine Aw trivial ?_ ?_)))
 ·intro hlt
  (((refine Am ?_;refine Ab ?_ ?_));(focus omega))
  refine⟨fun v u w'=>∃ (A0 A1 R0 R1:List (Ky × Nat)),v=.int .i64 A1.length∧u=.int .i64 ((A1.length:Int)+2*bs)∧T0=A0++R0∧RunsF (ltK cv) (2*bs) A0 A1∧Runs (ltK cv) bs R0 R1∧Mem H w0 (rowR 128 33 A n c (fTK (A1++R1))::R) w',fun v _ _=>match v with | .int _ k=>n+1 - k.toNat|_=>0,⟨[],[],T0,T,rfl,by rw[Value.int.injEq];refine⟨rfl,?_⟩;simp,rfl,.nil,hr,hM⟩,?_⟩
  clear hM hr htl
  rintro v u u4 w5 ⟨A0,A1,R0,R1,rfl,rfl,hT,hA,hr,hM⟩
  have hal:=hA.len
  have hrl:=hr.len
  have hlen:A1.length+R1.length=n:=by
   rw[hT,List.length_append]at hn
   omega
  (((refine Aw trivial ?_ ?_)))
  ·intro hle
   (((refine Am ?_;refine Ab ?_ ?_));(focus omega))
   obtain⟨U0,U,S0,S,rfl,rfl,okU,hUl,hr⟩:=hr.first (by omega)
   rw[List.length_append]at hlen hrl
   obtain⟨V0,V,S0,S,rfl,rfl,okV,hVl,hr⟩:=hr.first (by omega)
   rw[List.length_append]at hlen
   refine Bi (aIn (cv:=cv) hW hl (U.length+V.length+1) _ A1 U V S _ _ _ _ rfl (by omega) (by omega) rfl (by omega) (by omega) (by omega) okU.2 okV.2 (hcr hT okU.1 okV.1) (by simp only[List.length_append];omega) hM) ?_
   clear hM
   rintro v w6 ⟨rfl,M',p,s,hM⟩
   have hml:=p.length_eq
   rw[List.length_append]at hml
   (((refine Ab ?_ ?_));(focus omega);((refine Ab ?_ ?_));(focus omega))
   exact⟨⟨A0++(U0++V0),A1++M',S0,S,by rw[Value.int.injEq];refine⟨rfl,?_⟩;rw[List.length_append];push_cast;omega,by rw[Value.int.injEq];refine⟨rfl,?_⟩;rw[List.length_append];push_cast;omega,by rw[hT];simp only[List.append_assoc],.snoc hA ⟨p.trans (okU.1.append okV.1),s⟩ (by omega),hr,by rw[List.append_assoc];exact hM⟩,by simp only;omega⟩
  intro hgt
  (((refine Aj ?_)))
  refine⟨fun w'=>∃ T,Runs (ltK cv) (2*bs) T0 T∧Mem H w0 (rowR 128 33 A n c (fTK T)::R) w',?_,?_⟩
  ·(((refine Ab ?_ ?_));(focus omega))
   (((refine Aw trivial ?_ ?_)))
   ·intro hc2
    (((refine Am ?_)))
    obtain⟨U0,U,S0,S,rfl,rfl,okU,hUl,hr⟩:=hr.first (by omega)
    rw[List.length_append]at hlen hrl
    have okS:=hr.short (by omega)
    refine Bi (aIn (cv:=cv) hW hl (U.length+S.length+1) _ A1 U S [] _ _ _ _ rfl (by omega) (by omega) (by rw[List.append_nil]) (by omega) (by omega) (by omega) okU.2 okS.2 (hcr (W:=[]) (by rw[List.append_nil];exact hT) okU.1 okS.1) (by simp only[List.length_append];omega) hM) ?_
    clear hM
    rintro v w6 ⟨rfl,M',p,s,hM⟩
    have hml:=p.length_eq
    rw[List.length_append]at hml
    rw[List.append_nil]at hM
    skip
    refine⟨A1++M',?_,hM⟩
    rw[hT]
    exact hA.app (.last ⟨p.trans (okU.1.append okS.1),s⟩ (by omega))
   ·intro hc2
    (((refine Aj ?_)))
    refine⟨A1++R1,?_,hM⟩
    rw[hT]
    exact hA.app (.last (hr.short (by omega)) (by omega))
  clear hM
  rintro u5 w6 ⟨T2,hr2,hM⟩
  (((refine Ab ?_ ?_));(focus omega))
  exact⟨⟨2*bs,T2,by rw[Value.int.injEq];refine⟨rfl,?_⟩;push_cast;omega,by omega,by omega,hr2,hM⟩,by simp only;omega⟩
 ·intro hge
  (((refine Aj ?_)))
  exact⟨_,rfl,rfl,T,hr.short (by omega),hM⟩
theorem aPv [FunC prog fc] [hc:∀ x y:Ky,PurC prog fc [.agg (fl (Ky.fds x)).toArray,.agg (fl (Ky.fds y)).toArray] True (.int .i64 (cv x y))] (hW:SW (ltK cv)) (l:List Ky) (hl:l.length≤1000000) (hM:Mem H w0 (rowR 128 33 A l.length c (l.map Ky.fds)::R) w):
  Calls prog 194 #[.slice A l.length c,fv fc] w fun en w'=>∃ v,en=.returned v∧v=.tuple #[]∧Mem H w0 (rowR 128 33 A l.length c ((srtB (ltK cv) l).map Ky.fds)::R) w':=by
 have e:fTK l.zipIdx=l.map Ky.fds:=by
  have:fTK l.zipIdx=(l.zipIdx.map (·.1)).map Ky.fds:=by rw[List.map_map];rfl
  rw[this,List.zipIdx_map_fst]
 have ht:(l.zipIdx).Pairwise (fun p q=>p.2<q.2):=by
  have h2:(l.zipIdx.map (·.2)).Pairwise (·<·):=by
   rw[List.zipIdx_map_snd]
   exact List.pairwise_lt_range'
  exact List.pairwise_map.1 h2
 rw[← e]at hM
 refine Fb ?_
 unfold De
 (((refine Ab trivial ?_)))
 refine Bi (aPu (cv:=cv) hW hl l.zipIdx ht List.length_zipIdx hM) ?_
 rintro v w2 ⟨rfl,T,hok,hM⟩
 skip
 refine⟨_,rfl,rfl,?_⟩
 rw[← bAe hW hok.1 hok.2,List.map_map]
 exact hM
end
end Go.Proofs.YtgbenhmdamnmcaaGreat
namespace Go.Proofs.YtgbenhmdamnmcaaGreat
open Go.Proofs.Tryz
open Go.RowKit
section
variable {α:Type} {key:α→Int}
def lk (key:α→Int):α→List α→Int
 | x,[]=>key x
 | _,y::r=>lk key y r
theorem aXc {x y:α} (h:key x=key y):∀ R:List α,lk key x R=lk key y R
 | []=>h
 | _::_=>rfl
theorem aBg (z:α):∀ (R:List α) (x:α),cpt key x (R++[z])=cpt key x R++(if lk key x R=key z then [] else [z])
 | [],x=>by
   by_cases h:key x=key z
   ·rw[if_pos (show lk key x []=key z from h),List.append_nil]
    exact if_pos h
   ·rw[if_neg (show ¬lk key x []=key z from h)]
    exact if_neg h
 | y::R,x=>by
   by_cases h:key x=key y
   ·rw[List.cons_append,show cpt key x (y::(R++[z]))=cpt key x (R++[z]) from if_pos h,show cpt key x (y::R)=cpt key x R from if_pos h,aBg z R x,aXc h]
    rfl
   ·rw[List.cons_append,show cpt key x (y::(R++[z]))=x::cpt key y (R++[z]) from if_neg h,show cpt key x (y::R)=x::cpt key y R from if_neg h,aBg z R y]
    rfl
theorem aNb:∀ (R:List α) (x:α) {i:Nat} (h:i<(x::R).length),lk key x (R.take i)=key ((x::R)[i])
 | _,_,0,_=>rfl
 | [],_,_+1,h=>by simp at h
 | y::R,x,i+1,h=>by
   rw[List.take_succ_cons]
   exact aNb R y (by simpa using h)
theorem Wg {S:List α} {i:Nat} (h1:0<i) (hi:i<S.length):cptL key (S.take (i+1))=cptL key (S.take i)++(if key (S[i - 1]'(by omega))=key S[i] then [] else [S[i]]):=by
 cases S with
 | nil=>simp at hi
 | cons x R=>
   obtain⟨i,rfl⟩:∃ j,i=j+1:=⟨i - 1,by omega⟩
   have hi':i<R.length:=by simpa using hi
   rw[List.take_succ_cons,List.take_succ_cons,List.take_succ_eq_append_getElem hi']
   simp only[cptL,Nat.add_sub_cancel,List.getElem_cons_succ]
   rw[aBg,aNb R x (by simp only[List.length_cons];omega)]
theorem aBh {S:List α}:∀ {i:Nat},i≤S.length→(∀ (j:Nat) (hj:j<S.length),0<j→j<i→key (S[j - 1]'(by omega))≠key S[j])→cptL key (S.take i)=S.take i
 | 0,_,_=>by simp[cptL]
 | 1,h,_=>by
   cases S with
   | nil=>simp at h
   | cons x R=>simp[cptL,cpt]
 | i+2,h,hn=>by
   rw[Wg (by omega) (by omega),aBh (i:=i+1) (by omega) fun j hj h0 h1=>hn j hj h0 (by omega),if_neg (hn (i+1) (by omega) (by omega) (by omega)),← List.take_succ_eq_append_getElem (by omega)]
end
end Go.Proofs.YtgbenhmdamnmcaaGreat
namespace Go.Proofs.YtgbenhmdamnmcaaGreat
open Go.Proofs.Tryz
open Go.RowKit Go.Lib
section
variable {P:Program} {H:Hp} {w0 w:World} {L R':List Res} {n m capx e e' ex sz by_ t tx ty:Nat} {A B:Option Addr} {ps qs:List (List Fd)} {ks:List Bool} {K:Value→World→Prop} {X:List PanicEntry→World→Prop}
theorem aXd (h:Mem H w0 L w) [cc:SliC P t e sz by_] [k':AtR L B m capx ex sz qs R'] [cx:SliC P tx e' sz by_] (a:Sl H sz A ps) (hn:n=ps.length) (hm:0<m) (hb:n+m≤9223372036854775807∧(n+m)*by_≤140737488355328)
  (hk:∀ A' cap' w',Mem H w0 (rowR e sz A' (n+m) cap' (ps++qs)::L) w'→K (.slice A' (n+m) cap') w'):mop P (Ak .append #[t,tx] ty ks [.slice A n n,.slice B m capx]) w K X:=by
 have hs:Src P sz tx (.slice B m capx) m (fls qs) w:=h.src k' cx.und capx
 obtain⟨q1,q2,-⟩:=h.open_ k'
 obtain⟨ht,i,z,hi,hz,h4,h5,h6⟩:=Je cc.ok
 have hd:Drawn w w.drew:=⟨1,rfl⟩
 have h7:=h.drawn hd
 have hfl:(fls ps).length=n*sz:=by rw[a.els.len,hn]
 have hql:(fls qs).length=m*sz:=by rw[q1.len,q2]
 have hfx:(Builtin.firstCells i.size n (.slice A n n)).run P w.drew=.ok (fls ps).toArray w.drew:=by
  rw[h4]
  cases A with
  | none=>
    have:ps=[]:=by
     rcases a.at_ with h|⟨b,o,c,h,_⟩
     ·exact h
     ·cases h
    subst this
    subst hn
    simp[Builtin.firstCells,fls]
  | some a0=>
    refine run_firstCells_some w.drew sz n a0 n n (fls ps) hfl (fun j u hu=>?_)
    rcases a.at_ with rfl|⟨b,o,c,hA,hH,hc⟩
    ·simp[fls]at hu
    ·cases hA
     rw[Addr.add_lit]
     exact Sl.cell a h7.fz hu
 have hgm:grownCap w (n+m) n e≤maxLen:=grownCap_le_maxLen w (n+m) n e (by simp only[maxLen];omega)
 have hge:=grownCap_ge w (n+m) n e
 have hrun:∀ v w',(Builtin.append_ #[t,tx] ty #[.slice A n n,.slice B m capx]).run P w=.ok v w'→(Ak .append #[t,tx] ty ks [.slice A n n,.slice B m capx]).run P w=.ok (.value v) w':=fun v w' h=>by
  simp[Ak,invoke,builtin,h]
 have e1:(fls ps++fls qs).toArray++Builtin.zeroCells z.cells (grownCap w (n+m) n e - (n+m))=(fls (ps++qs)++(Builtin.zeroCells z.cells (grownCap w (n+m) n e - (n+m))).toList).toArray:=by
  apply Array.ext'
  simp[Gp]
 obtain⟨Bk,hl,hs4,hb4⟩:=h7.own
 refine Cl (hrun (.slice (some ⟨w.heap.size,0,none⟩) (n+m) (grownCap w (n+m) n e)) (w.drew.alloc (.cells ((fls ps++fls qs).toArray++Builtin.zeroCells z.cells (grownCap w (n+m) n e - (n+m))) e)) ?_) (hk _ _ _ ?_)
 ·exact run_append_grow_src (P:=P) w t tx ty e i z ht hi hz A n n (fls ps) hfx _ m (fls qs) (by rw[h4];exact hs) (by omega) (by omega) (growslice_fits (by omega) (by rw[h5];exact hb.2))
 ·rw[e1]
  refine⟨⟨⟨w.heap.size,e,fls (ps++qs)++(Builtin.zeroCells z.cells (grownCap w (n+m) n e - (n+m))).toList,true⟩::Bk,⟨[_],Bk,rfl,⟨a.els.app q1,by simp[hn,q2],.inr ⟨w.heap.size,(Builtin.zeroCells z.cells (grownCap w (n+m) n e - (n+m))).toList,rfl,rfl,?_,hge,hgm⟩⟩,hl⟩,hs4.alloc e _,fun b hm=>?_⟩,h7.fz.ext ((Only.refl _ _).alloc _)⟩
  ·simp only[List.length_append,Array.length_toList,size_zeroCells,h6,Gp,hfl,hql]
   rw[← Nat.add_mul,← Nat.add_mul]
   congr 1
   omega
  ·rcases List.mem_cons.1 hm with rfl|hm
   ·refine⟨rfl,?_⟩
    cases hh:H w.heap.size with
    | none=>rfl
    | some c=>have:=h.fz.lt hh;omega
   ·exact hb4 b hm
end
end Go.Proofs.YtgbenhmdamnmcaaGreat
namespace Go.Proofs.YtgbenhmdamnmcaaGreat
open Go.Proofs.Tryz
open Go.RowKit Go.Lib
section
variable {P:Program} {H:Hp} {w:World} {n cap sz t:Nat} {A:Option Addr} {ps:List (List Fd)} {K:Value→World→Prop} {X:List PanicEntry→World→Prop}
theorem Sl.take (h:Sl H sz A ps) (k:Nat):Sl H sz A (ps.take k):=⟨h.els.take k,by
 rcases h.at_ with rfl|⟨b,o,c,hA,hH,hc⟩
 ·exact .inl (by simp)
 ·refine .inr ⟨b,o,c,hA,hH,fun j u hu=>hc j u ?_⟩
  rw[← List.take_append_drop k ps,Gp,List.getElem?_append_left (List.getElem?_eq_some_iff.1 hu).1]
  exact hu⟩
theorem Sl.drop_ {b o:Nat} (h:Sl H sz (some ⟨b,o,none⟩) ps) {k:Nat} (hk:k≤ps.length):Sl H sz (some ⟨b,o+k*sz,none⟩) (ps.drop k):=⟨⟨fun q hq=>h.els.ok q (List.mem_of_mem_drop hq)⟩,by
 rcases h.at_ with rfl|⟨b,o,c,hA,hH,hc⟩
 ·exact .inl (by simp)
 ·cases hA
  refine .inr ⟨_,_,c,rfl,hH,fun j u hu=>?_⟩
  rw[Nat.add_assoc]
  refine hc _ u ?_
  have ht:(fls (ps.take k)).length=k*sz:=by rw[(h.els.take k).len,List.length_take,Nat.min_eq_left hk]
  rw[← List.take_append_drop k ps,Gp,List.getElem?_append_right (by omega),ht,Nat.add_sub_cancel_left]
  exact hu⟩
end
end Go.Proofs.YtgbenhmdamnmcaaGreat
namespace Go.Proofs.YtgbenhmdamnmcaaGreat
open Go.Proofs.Tryz
open Go.RowKit
class BytC (P:Program) (t:TypeId) (e:outParam TypeId):Prop where
 ok:P.underlying t=some (.slice e)∧(P.info? e).map (fun i=>(i.zero,i.size,i.bytes))=some (some (.int .u8 0),1,1)
section
variable {P:Program} {H:Hp} {w0 w:World} {L R R1:List Res} {g n c cap:Nat} {t t' e:TypeId} {K:Value→World→Prop} {X:List PanicEntry→World→Prop} {A:Option Addr} {fs:List Fd} {put:Res→List Res}
theorem aLc (n:Nat):madeCells #[Value.int .u8 0] n=(u8s (List.replicate n 0)).toArray:=by
 unfold madeCells u8s
 apply Array.ext'
 simp only[Array.toList_map,Array.toList_range,List.map_replicate]
 refine List.ext_getElem (by simp) fun i h1 h2=>?_
 simp[Nat.mod_one]
theorem bAi (h:Mem H w0 L w) [b:BytC P t e] (hn:n≤16777216) (hk:∀ g w',Mem H w0 (rowR e 1 (some ⟨g,0,none⟩) n n (byts (List.replicate n 0))::L) w'→K (.slice (some ⟨g,0,none⟩) n n) w'):mop P (Jz t (.int .i64 n) (.int .i64 n)) w K X:=by
 have hr:=run_make_row' (P:=P) t e (.int .u8 0) 1 b.ok.1 b.ok.2 rfl .i64 .i64 n (by omega) (by omega) w
 rw[aLc]at hr
 refine Cl (w':=w.alloc (.cells (u8s (List.replicate n 0)).toArray e)) (u:=.slice (some ⟨w.heap.size,0,none⟩) n n) ?_ (hk _ _ ?_)
 ·simp only[Jz,sv,Sem.run_bind,hr,Result.andThen_ok]
  rfl
 obtain⟨B,hl,hs,hb⟩:=h.own
 have hf:fls (byts (List.replicate n 0))=u8s (List.replicate n 0):=Jg _
 rw[← hf]
 refine⟨⟨⟨w.heap.size,e,fls (byts (List.replicate n 0)),true⟩::B,⟨[⟨w.heap.size,e,fls (byts (List.replicate n 0)),true⟩],B,rfl,⟨Sv _,by rw[Ig,List.length_replicate],.inr ⟨w.heap.size,[],rfl,by simp,by rw[List.append_nil,hf];simp[u8s],Nat.le_refl _,?_⟩⟩,hl⟩,hs.alloc e _,fun b hm=>?_⟩,h.fz.ext ((Only.refl _ w).alloc _)⟩
 ·exact Nat.le_trans hn (by decide)
 ·rcases List.mem_cons.1 hm with rfl|hm
  ·refine⟨rfl,?_⟩
   cases hh:H w.heap.size with
   | none=>rfl
   | some c=>have:=h.fz.lt hh;omega
  ·exact hb b hm
theorem bAj {sT ty:TypeId} {ks:List Bool} {l:List Int} {s:ByteArray} (h:Mem H w0 L w) [b:BytC P t e] [a:AtR L (some ⟨g,0,none⟩) n cap e 1 (byts l) R1] (hs:s.size=n)
  (hk:∀ w',Mem H w0 (rowR e 1 (some ⟨g,0,none⟩) n cap (byts (ints s))::R1) w'→K (.int .i64 n) w'):mop P (Ak .copy #[t,sT] ty ks [.slice (some ⟨g,0,none⟩) n cap,.string s]) w K X:=by
 obtain⟨B,⟨B1,B2,rfl,⟨h1,h2,h3⟩,h4⟩,hs',hb⟩:=(h.perm a.perm).own
 obtain⟨ht,hi⟩:=b.ok
 have he:(P.info? e).map (·.size)=some 1:=by
  obtain⟨i,hi,hz⟩:=Option.map_eq_some_iff.1 hi
  simp only[Prod.mk.injEq]at hz
  simp[hi,hz.2.1]
 rcases h3 with ⟨hA,_⟩|⟨g',sp,hA,rfl,h8,h9,h10⟩
 ·cases hA
 ·cases hA
  have hs':St w0 (⟨g,e,fls (byts l)++sp,true⟩::B2) w:=hs'
  have hll:l.length=n:=by rw[← h2,Ig]
  have hfl:(fls (byts l)).length=n:=by rw[Jg];simp[u8s,hll]
  have hil:(u8s (ints s)).length=n:=by simp[u8s,Bq,hs]
  have hst:=Cc (P:=P) 0 (u8s (ints s)) 0 (fls (byts l)++sp) w hs'.head (by rw[List.length_append];omega) (Fk _)
  have hlay:lay (fls (byts l)++sp) (u8s (ints s)) 0=fls (byts (ints s))++sp:=by
   unfold lay
   rw[List.take_zero,List.nil_append,Nat.zero_add,hil,← hfl,List.drop_left' rfl,Jg]
  have hl2:(fls (byts (ints s))++sp).length=(fls (byts l)++sp).length:=by
   rw[Jg,List.length_append,List.length_append,hil,hfl]
  rw[Nat.add_zero,hlay]at hst
  have hg:=hb ⟨g,e,fls (byts l)++sp,true⟩ (by simp)
  refine Cl (w':=w.setRow g (fls (byts (ints s))++sp).toArray) (u:=.int .i64 n) ?_ (hk _ ?_)
  ·have hx:List.take n (List.map (fun b:UInt8=>Value.int IntKind.u8 b.toNat) s.data.toList)=u8s (ints s):=by
    rw[List.take_of_length_le (by rw[List.length_map];show s.size≤n;omega)]
    simp only[u8s,ints,List.map_map]
    rfl
   have hmin:Nat.min n n=n:=Nat.min_self n
   simp[Ak,invoke,builtin,Builtin.copy_,run_underlying ht,Builtin.lenOf,Ch he,Builtin.firstCells,goInt,hs,hmin]
   rw[hx,hst]
   rfl
  ·refine⟨⟨⟨g,e,fls (byts (ints s))++sp,true⟩::B2,⟨[_],B2,rfl,⟨Sv _,by rw[Ig,Bq,hs],.inr ⟨g,sp,rfl,rfl,by rw[hl2];exact h8,h9,h10⟩⟩,h4⟩,hs'.setRow hl2,fun b hm=>?_⟩,h.fz.same fun b c hc=>setRow_other w g b _ ?_⟩
   ·rcases List.mem_cons.1 hm with rfl|hm
    ·exact⟨rfl,hg.2⟩
    ·exact hb b (List.mem_append.2 (.inr hm))
   ·rintro rfl
    have:=hg.2
    simp only[hc]at this
    cases this
theorem bAk {s d:TypeId} {l:List Int} {i k:Nat} (h:Mem H w0 L w) [st:StrC P s d] [kk:AtB L g t' fs put] [q:Sub fs i n [.arr n (u8s l)]] (hn:k≤n) (hk:K (.string (strOfNums (l.take k))) w):mop P (Ay s d (.slice (some ⟨g,i,none⟩) k c)) w K X:=by
 obtain⟨h1,h2⟩:=h.bytesF kk q
 refine Dz (Zk st (by rw[List.length_take];omega) fun j u hu=>h2 j u ?_) hk
 have hj:j<k:=by have:=(List.getElem?_eq_some_iff.1 hu).1;simp[u8s]at this;omega
 rw[show u8s (l.take k)=(u8s l).take k by simp[u8s,List.map_take],List.getElem?_take]at hu
 simpa [hj] using hu
theorem bAl {R1:List Res} {g k m n cap e sz:Nat} {tt:TypeId} {q:Bool} {v:Value} {fs gs fs':List Fd} {ps:List (List Fd)} {K:Value→World→Prop} (h:Mem H w0 L w) [c:ShpC P tt q m] [a:AtA L (some ⟨g,0,none⟩) n cap e sz ps R1] (hk:ps[k]?=some fs) [f:Vf v m gs] [p:Put fs 0 gs fs'] (hK:∀ w',Mem H w0 (rowR e sz (some ⟨g,0,none⟩) n cap (ps.set k fs')::R1) w'→K undef w'):df P w (Ai tt (.pointer (some ⟨g,0+k*sz,none⟩)) v) false K:=aKd (off:=0) h hk hK
theorem bAm {P:Program} {t:TypeId} {b o n cap sz:Nat} {ii:Int} {kk:IntKind} {Kq:Value→Prop} [c:SliS P t sz] (hi:0≤ii∧ii<n) (hk:Kq (.pointer (some ⟨b,o+ii.toNat*sz,none⟩))):dp P (Ag t (.slice (some ⟨b,o,none⟩) n cap) (.int kk ii)) Kq:=Og (Bw t b o n cap kk ii sz c.ok.1 c.ok.2 hi.1 hi.2) hk
theorem aNc {α:Type} {T S:List α} {m p:Nat} (h:T.drop m=S.drop m) (hp:m≤p):T[p]?=S[p]?:=by
 have:=congrArg (·[p - m]?) h
 simp only[List.getElem?_drop]at this
 rwa [Nat.add_sub_cancel' hp]at this
end
end Go.Proofs.YtgbenhmdamnmcaaGreat
namespace Go.Proofs.YtgbenhmdamnmcaaGreat
open Go.Proofs.Tryz
open Go.RowKit Go.Lib
instance:FunC prog 195:=⟨by kernel_rfl⟩
instance:FunC prog 197:=⟨by kernel_rfl⟩
section
variable {H:Hp} {w0 w:World} {L R:List Res} {A B:Option Addr} {a c n m:Nat}
theorem aLd (x y:Ky) (w:World):Calls prog 195 #[.agg (fl x.fds).toArray,.agg (fl y.fds).toArray] w fun en w'=>en=.returned (.int .i64 (cvK x y))∧St w [] w':=by
 have hM:=Mem.start (Fz.of w)
 have h1:=x.ok
 have h2:=y.ok
 refine Vt ?_
 unfold Mn
 (((refine Bh hM ?_;clear hM;intro _ _ hM;refine Bh hM ?_;clear hM;intro _ _ hM;refine Ab trivial ?_;refine An hM ?_;refine Ab trivial ?_;refine An hM ?_;refine Ab ?_ ?_));(focus omega))
 exact⟨rfl,hM.st⟩
instance (x y:Ky):PurC prog 195 [.agg (fl x.fds).toArray,.agg (fl y.fds).toArray] True (.int .i64 (cvK x y)):=⟨fun _ w=>aLd x y w⟩
theorem aLe (x y:Ky) (w:World):Calls prog 197 #[.agg (fl x.fds).toArray,.agg (fl y.fds).toArray] w fun en w'=>en=.returned (.bool (decide (x.node=y.node)))∧St w [] w':=by
 have hM:=Mem.start (Fz.of w)
 refine Vu ?_
 unfold Mo
 (((refine Bh hM ?_;clear hM;intro _ _ hM;refine Bh hM ?_;clear hM;intro _ _ hM;refine Ab trivial ?_;refine An hM ?_;refine Ab trivial ?_;refine An hM ?_)))
 exact⟨rfl,hM.st⟩
instance (x y:Ky):PurC prog 197 [.agg (fl x.fds).toArray,.agg (fl y.fds).toArray] True (.bool (decide (x.node=y.node))):=⟨fun _ w=>aLe x y w⟩
theorem aLf {ps:List (List Fd)} (hs:Sl (Hp.of w) 33 A ps) (hn:n=ps.length) (hb:n≤100000) (hM:Mem H w0 L w):Calls prog 193 #[.slice A n a] w fun en w'=>∃ v,en=.returned v∧∃ A' a',v=.slice A' n a'∧Mem H w0 (rowR 128 33 A' n a' ps::L) w':=by
 refine Hn ?_
 unfold Ep
 refine Mr (P:=prog) (t:=63) (R:=fun en w'=>∃ v,en=.returned v∧∃ A' a',v=.slice A' n a'∧Mem H w0 (rowR 128 33 A' n a' ps::L) w') hs hn hM ?_ (fun A' a' w' hx hM=>⟨_,rfl,_,_,rfl,hM⟩)
 omega
theorem aDp {α:Type} {lt:α→α→Bool}:∀ (l acc:List α),(l.foldl (fun acc x=>insB lt x acc) acc).length=acc.length+l.length
 | [],acc=>by simp
 | p::r,acc=>by
   rw[List.foldl_cons,aDp r,(Mx p acc).length_eq,List.length_cons,List.length_cons]
   omega
theorem aUh {α:Type} {lt:α→α→Bool} (l:List α):(srtB lt l).length=l.length:=by
 unfold srtB
 rw[aDp]
 simp
theorem aUi {α:Type} {T:List α} {k:Nat} {x:α} (h:k<T.length):(T.set k x).take (k+1)=T.take k++[x]:=by
 rw[List.set_eq_take_append_cons_drop,if_pos h,List.take_append,List.length_take,Nat.min_eq_left (by omega),List.take_of_length_le (by rw[List.length_take];omega),Nat.add_sub_cancel_left]
 rfl
theorem bAn (S:List Ky) (hn:n=S.length) (hl:n≤1000000) (hM:Mem H w0 (rowR 128 33 A n c (S.map Ky.fds)::R) w):
  Calls prog 196 #[.slice A n c,fv 197] w fun en w'=>∃ v,en=.returned v∧v=.slice A (cptL Ky.node S).length c∧Mem H w0 (rowR 128 33 A (cptL Ky.node S).length c ((cptL Ky.node S).map Ky.fds)::R) w':=by
 refine Fu ?_
 unfold Dm
 have hcp:=(Mem.rowLen (A:=A) hM ⟨.refl _⟩).2.1
 (((refine Ab trivial ?_)))
 (((refine Aw trivial ?_ ?_)))
 ·intro h2
  (((refine Am ?_)))
  have e:cptL Ky.node S=S:=by
   match S,hn with
   | [],_=>rfl
   | [x],_=>rfl
   | _::_::_,hn=>simp only[List.length_cons]at hn;omega
  rw[e,← hn]
  exact⟨_,rfl,rfl,hM⟩
 intro h2
 (((refine Aj ?_)))
 obtain⟨g,rfl⟩:=hM.rowAt (n:=n) ⟨.refl _⟩ (by omega)
 refine⟨fun v w'=>∃ i:Nat,v=.int .i64 i∧1≤i∧i≤n∧(∀ (j:Nat) (hj:j<S.length),0<j→j<i→Ky.node (S[j - 1]'(by omega))≠Ky.node S[j])∧Mem H w0 (rowR 128 33 (some ⟨g,0,none⟩) n c (S.map Ky.fds)::R) w',fun v _=>match v with | .int _ k=>n - k.toNat|_=>0,⟨1,rfl,by omega,by omega,fun j hj h0 h1=>by omega,hM⟩,?_⟩
 clear hM
 rintro v u w1 ⟨i,rfl,hi1,hi2,hne,hM⟩
 (((refine Ab trivial ?_)))
 (((refine Aw trivial ?_ ?_)))
 ·intro hlt
  have hil:i<S.length:=by omega
  have ht1:((i:Int) - 1).toNat=i - 1:=by omega
  have hk:decide (S[i].node=(S[((i:Int) - 1).toNat]'(by omega)).node)=decide (S[i].node=(S[i - 1]'(by omega)).node):=by simp only[ht1]
  (((refine Am ?_;refine Cj hM ?_ ?_));(focus omega);((intro _ hA));(cases hA);((refine Cv hM (By ?_) ?_));(focus omega);((refine Ap ?_ ?_));(focus omega);((refine Cj hM ?_ ?_));(focus omega);((intro _ hA));(cases hA);((refine Cv hM (Ct ?_) ?_));(focus omega);((refine Bs hM ?_ (fun _ _ hM=>?_)));(focus (first|exact trivial|assumption|omega));((refine Bc hM ?_;clear hM;intro _ hM)))
  rw[hk]
  by_cases hq:S[i].node=(S[i - 1]'(by omega)).node
  ·rw[decide_eq_true hq]
   have hall:=aBh (key:=Ky.node) (S:=S) (i:=i) (by omega) (fun j hj h0 h1=>hne j hj h0 (by omega))
   have hnx:=Wg (key:=Ky.node) (S:=S) (i:=i) (by omega) hil
   rw[if_pos hq.symm,List.append_nil,hall]at hnx
   (((refine Am ?_;refine Ab ?_ ?_));(focus omega))
   refine⟨fun v v2 w'=>∃ (j k:Nat) (T:List Ky),v=.int .i64 k∧v2=.int .i64 j∧1≤j∧i+j≤n∧k=(cptL Ky.node (S.take (i+j))).length∧k+1≤i+j∧T.length=n∧T.take k=cptL Ky.node (S.take (i+j))∧T.drop (i+j - 1)=S.drop (i+j - 1)∧Mem H w0 (rowR 128 33 (some ⟨g,0,none⟩) n c (T.map Ky.fds)::R) w',fun _ v _=>match v with | .int _ k=>n - k.toNat|_=>0,⟨1,i,S,rfl,rfl,by omega,by omega,by rw[hnx,List.length_take];omega,by omega,hn.symm,by rw[hnx],rfl,hM⟩,?_⟩
   clear hM
   rintro v v2 u2 w2 ⟨j,k,T,rfl,rfl,hj1,hj2,hk1,hk2,hTl,hT1,hT2,hM⟩
   (((refine Ab trivial ?_)))
   (((refine Aw trivial ?_ ?_)))
   ·intro hjl
    have hij:i+j<S.length:=by omega
    have a1:(T.map Ky.fds)[i+j]?=some (S[i+j]).fds:=by
     rw[List.getElem?_map,aNc hT2 (by omega),List.getElem?_eq_getElem hij]
     rfl
    have a2:(T.map Ky.fds)[i+j - 1]?=some (S[i+j - 1]'(by omega)).fds:=by
     rw[List.getElem?_map,aNc hT2 (by omega),List.getElem?_eq_getElem (by omega)]
     rfl
    have hst:=Wg (key:=Ky.node) (S:=S) (i:=i+j) (by omega) hij
    have hT3:T.drop (i+j)=S.drop (i+j):=by
     have:=congrArg (List.drop 1) hT2
     rw[List.drop_drop,List.drop_drop,show i+j - 1+1=i+j by omega]at this
     exact this
    have hkl2:k≤i+j - 1:=by omega
    (((refine Am ?_)))
    refine⟨fun x w'=>∃ (k':Nat) (T':List Ky),x=.int .i64 k'∧k'=(cptL Ky.node (S.take (i+j+1))).length∧k'≤i+j∧T'.length=n∧T'.take k'=cptL Ky.node (S.take (i+j+1))∧T'.drop (i+j)=S.drop (i+j)∧Mem H w0 (rowR 128 33 (some ⟨g,0,none⟩) n c (T'.map Ky.fds)::R) w',?_,?_⟩
    ·refine bAm (by omega) ?_
     rw[show 0+((i:Int)).toNat*33+((j:Int)).toNat*33=0+(i+j)*33 by omega]
     refine Cv hM a1 ?_
     (((refine Ap ?_ ?_));(focus omega);((refine Ap ?_ ?_));(focus omega))
     rw[show 0+((i:Int)).toNat*33+((j:Int) - 1).toNat*33=0+(i+j - 1)*33 by omega]
     refine Cv hM a2 ?_
     by_cases hq2:(S[i+j]).node=(S[i+j - 1]'(by omega)).node
     ·rw[if_pos hq2.symm,List.append_nil]at hst
      (((refine Bs hM ?_ (fun _ _ hM=>?_)));(focus (first|exact trivial|assumption|omega));((refine Ap trivial ?_;refine Bc hM ?_;clear hM;intro _ hM)))
      rw[decide_eq_true hq2]
      simp only[Bool.not_true]
      (((refine Aj ?_)))
      exact⟨k,T,rfl,by rw[hst,hk1],by omega,hTl,by rw[hst,hT1],hT3,hM⟩
     ·rw[if_neg (fun h=>hq2 h.symm)]at hst
      (((refine Bs hM ?_ (fun _ _ hM=>?_)));(focus (first|exact trivial|assumption|omega));((refine Ap trivial ?_;refine Bc hM ?_;clear hM;intro _ hM)))
      rw[decide_eq_false hq2]
      simp only[Bool.not_false]
      (((refine Am ?_;refine Ab ?_ ?_));(focus omega))
      rw[show 0+((i:Int)).toNat*33+((j:Int)).toNat*33=0+(i+j)*33 by omega]
      refine Yg hM a1 ?_
      (((refine Zg hM ?_ ?_));(focus omega);((intro _ hA));(cases hA);((refine aKb hM ?_ ?_));(focus omega);((clear hM;intro _ hM;refine Ab ?_ ?_));(focus omega))
      have e5:(T.map Ky.fds).set ((k:Int)).toNat (S[i+j]).fds=(T.set k S[i+j]).map Ky.fds:=by
       rw[Int.toNat_natCast]
       exact(List.map_set (f:=Ky.fds)).symm
      have hM:Mem H w0 (rowR 128 33 (some ⟨g,0,none⟩) n c ((T.map Ky.fds).set ((k:Int)).toNat (S[i+j]).fds)::R) _:=hM
      rw[e5]at hM
      refine⟨k+1,T.set k S[i+j],by rw[Value.int.injEq];refine⟨rfl,?_⟩;push_cast;rfl,by rw[hst,List.length_append,List.length_singleton,hk1],by omega,by rw[List.length_set,hTl],?_,?_,hM⟩
      ·rw[hst,← hT1,aUi (by omega)]
      ·rw[List.drop_set_of_lt (by omega),hT3]
    clear hM
    rintro v u4 w4 ⟨k',T',rfl,hk1',hk2',hTl',hT1',hT2',hM⟩
    (((refine Ab ?_ ?_));(focus omega))
    exact⟨⟨j+1,k',T',rfl,by rw[Value.int.injEq];refine⟨rfl,?_⟩;push_cast;rfl,by omega,by omega,hk1',by omega,hTl',hT1',hT2',hM⟩,by simp only;omega⟩
   ·intro hjg
    obtain rfl:j=n - i:=by omega
    have e0:i+(n - i)=S.length:=by omega
    rw[e0,List.take_length]at hk1 hT1
    (((refine Aj ?_;refine Ab ?_ ?_));(focus omega))
    rw[Int.toNat_natCast]
    refine aHk hM (by omega) ?_
    clear hM
    intro w4 hM
    rw[← List.map_take,hT1]at hM
    (((refine Ab ?_ ?_));(focus omega))
    rw[hk1]at hM
    rw[Int.toNat_natCast,hk1]
    exact⟨_,rfl,rfl,hM⟩
  ·rw[decide_eq_false hq]
   (((refine Aj ?_;refine Ab ?_ ?_));(focus omega))
   refine⟨⟨i+1,by rw[Value.int.injEq];refine⟨rfl,?_⟩;push_cast;rfl,by omega,by omega,fun j hj h0 h1=>?_,hM⟩,by simp only;omega⟩
   by_cases e:j=i
   ·subst e
    exact fun h=>hq h.symm
   ·exact hne j hj h0 (by omega)
 ·intro hge
  obtain rfl:i=n:=by omega
  (((refine Aj ?_)))
  have e:cptL Ky.node S=S:=by
   have:=aBh (key:=Ky.node) (S:=S) (i:=S.length) (by omega) (fun j hj h0 h1=>hne j hj h0 (by omega))
   rwa [List.take_length]at this
  rw[e,← hn]
  exact⟨_,rfl,rfl,hM⟩
theorem aDq (l:List Ky) (hn:n=l.length) (hl:n≤100000) (hs:Sl (Hp.of w) 33 A (l.map Ky.fds)) (hM:Mem H w0 L w):
  Calls prog 155 #[.slice A n a] w fun en w'=>∃ v,en=.returned v∧∃ A' c',v=.slice A' (sortedK l).length c'∧Mem H w0 (rowR 128 33 A' (sortedK l).length c' ((sortedK l).map Ky.fds)::L) w':=by
 refine aAd ?_
 unfold Pa
 skip
 refine Bi (aLf hs (by rw[List.length_map,hn]) (by omega) hM) ?_
 clear hM
 rintro v w2 ⟨C,cc,rfl,hM⟩
 skip
 subst hn
 refine Bi (aPv (cv:=cvK) bAh l (by omega) hM) ?_
 clear hM
 rintro v w3 ⟨rfl,hM⟩
 skip
 refine Bi (bAn (srtB (ltK cvK) l) (aUh l).symm (by omega) hM) ?_
 clear hM
 rintro v w4 ⟨rfl,hM⟩
 skip
 have e:=aKz l
 have hM:Mem H w0 (rowR 128 33 C (cptL Ky.node (srtB (fun a b:Ky=>decide (cvK a b<0)) l)).length cc ((cptL Ky.node (srtB (fun a b:Ky=>decide (cvK a b<0)) l)).map Ky.fds)::L) _:=hM
 rw[e]at hM
 exact⟨_,rfl,C,cc,by rw[← e],hM⟩
end
end Go.Proofs.YtgbenhmdamnmcaaGreat
namespace Go.Proofs.YtgbenhmdamnmcaaGreat
open Go.Proofs.Tryz
open Go.RowKit
theorem Mem.fzb {H:Hp} {w0 w:World} {L:List Res} {g:Nat} {t:TypeId} {fs:List Fd} (h:Mem H w0 (fb g t fs::L) w):∃ H',Le w0 H H'∧Mem H' w0 L w∧FbF H' g fs:=by
 obtain⟨B,⟨B1,B2,rfl,⟨hf,rfl⟩,h4⟩,hs,hb⟩:=h.own
 have hs:St w0 (⟨g,t,fl fs,true⟩::B2) w:=hs
 have hg:=hb ⟨g,t,fl fs,true⟩ (by simp)
 have hne:=(List.pairwise_cons.1 hs.ne).1
 refine⟨hadd H g (fl fs),⟨aVu hg.2,fun b hb1 hc=>?_⟩,⟨⟨B2,h4,hs.drop,fun b hm=>⟨(hb b (List.mem_append.2 (.inr hm))).1,?_⟩⟩,h.fz.hadd hs.head⟩,FbF.add hf⟩
 ·unfold hadd
  rw[if_neg]
  ·exact hc
  ·rintro rfl
   have:=hs.new _ (List.mem_cons_self ..) rfl
   simp only at this
   omega
 ·unfold hadd
  rw[if_neg]
  ·exact(hb b (List.mem_append.2 (.inr hm))).2
  ·intro e
   exact hne b hm e.symm
end Go.Proofs.YtgbenhmdamnmcaaGreat
namespace Go.Proofs.YtgbenhmdamnmcaaGreat
open Go.Proofs.Tryz
open Go.RowKit Go.Lib
section
variable {H:Hp} {w0 w:World} {L R:List Res} {A B K:Option Addr} {a c n m kc:Nat} {t:Tr} {v:Value}
theorem aNd (x:Int) (hx:0≤x∧x≤2*t.size - 2) (hR:t.Rt) (h:TrF H v t) (hf:Fz H w):Calls prog 152 #[v,.int .i64 x] w fun en w'=>en=.returned (.tuple #[ha (pubAt t x).1,.bool (pubAt t x).2])∧St w [] w':=by
 obtain⟨A,a,B,b,q,rfl,h1,h2,h3⟩:=h.ex
 have hM:=Mem.start hf
 have hlen:=hR.len
 have hts:t.size=t.ls.length:=rfl
 have hq:q.length=t.ps.length:=h3.len
 refine aGz ?_
 unfold Xc
 unfold pubAt
 by_cases he:x%2=0
 ·have hix:(x / 2).toNat<t.ls.length:=by omega
  have hla:leafAt t (x / 2)=t.ls[(x / 2).toNat]:=by
   unfold leafAt
   rw[List.getD_eq_getElem?_getD,List.getElem?_eq_getElem hix]
   rfl
  rw[if_pos he,hla]
  (((refine Bh hM ?_;clear hM;intro _ _ hM;refine Bf hM ?_;clear hM;intro _ _ hM;refine Ab ?_ ?_));(focus omega);((refine Bt trivial ?_ ?_));(focus (first|assumption|omega|with_reducible rfl|exact fun h=>Bool.noConfusion h));((refine Am ?_)))
  rename_i g1 _ g2 _
  have hM9:Mem H w (fb g1 58 (tfd A t.ls.length a B t.ps.length b)::[fb g2 23 [.arr 32 (u8s hzero.1)]]) _:=hM.same
  clear hM
  obtain⟨H',le',hM,hB⟩:=hM9.fzb
  refine⟨Rl.fz H',?_⟩
  have hF:=hM.fz
  have hn:=hM.free (g:=g2)
  have k1:=h1.mono le'.le
  have k2:=h2.mono le'.le
  (((refine Ap trivial ?_));(refine Dj ‹_› ‹_› ?_);((refine Ap ?_ ?_));(focus omega);(refine Hk ‹_› ?_ ?_ ?_);(focus (simp only[List.length_map];omega));(focus (simp only[List.length_map];first|done|omega));((intro _ _ hA));(cases hA);((refine Ap trivial ?_)))
  refine aFa hF k1 (Ct hix) ?_
  (((refine Ap trivial ?_));(refine Dj ‹_› ‹_› ?_);((refine Ap ?_ ?_));(focus omega);(refine Hk ‹_› ?_ ?_ ?_);(focus (simp only[List.length_map];omega));(focus (simp only[List.length_map];first|done|omega));((intro _ _ hA));(cases hA);((refine Ap trivial ?_)))
  refine aFa hF k1 (Ct hix) ?_
  refine Ap trivial ?_
  refine aYn hM hF hn ?_
  clear hM
  intro w4 hM hF
  (((refine Bc hM ?_;clear hM;intro _ hM;refine Bz hM ?_)))
  exact⟨rfl,hM.st⟩
 ·have hix:(x / 2).toNat<t.ps.length:=by omega
  obtain⟨q,hq1,C,c,rfl,hC,hcl⟩:=h3.at_ (i:=(x / 2).toNat) hix
  obtain⟨p,hpe⟩:∃ p,t.ps[(x / 2).toNat]=p:=⟨_,rfl⟩
  have hpa:parAt t (x / 2)=p:=by
   unfold parAt
   rw[List.getD_eq_getElem?_getD,List.getElem?_eq_getElem hix,hpe]
   rfl
  rw[if_neg he,hpa]
  rw[hpe]at hq1
  (((refine Bh hM ?_;clear hM;intro _ _ hM;refine Bf hM ?_;clear hM;intro _ _ hM;refine Ab ?_ ?_));(focus omega);((refine Bm trivial ?_ ?_));(focus (first|assumption|omega|with_reducible rfl|exact fun h=>Bool.noConfusion h));((refine Aj ?_)))
  rename_i g1 _ g2 _
  have hM9:Mem H w (fb g1 58 (tfd A t.ls.length a B t.ps.length b)::[fb g2 23 [.arr 32 (u8s hzero.1)]]) _:=hM.same
  clear hM
  obtain⟨H',le',hM,hB⟩:=hM9.fzb
  refine⟨Rl.fz H',?_⟩
  have hF:=hM.fz
  have hn:=hM.free (g:=g2)
  have k1:=h1.mono le'.le
  have k2:=h2.mono le'.le
  (((refine Ap trivial ?_));(refine Dj ‹_› ‹_› ?_);((refine Ap ?_ ?_));(focus omega))
  refine Hk k2 (by omega) hq.symm (fun bb oo hB=>?_)
  cases hB
  (((refine Ap trivial ?_)))
  refine aFa hF k2 hq1 ?_
  (((refine Ap trivial ?_));(refine Dj ‹_› ‹_› ?_);((refine Ap ?_ ?_));(focus omega);((refine Ap ?_ ?_));(focus omega);((refine Ap trivial ?_)))
  refine aFa hF k2 hq1 ?_
  refine aYn hM hF hn ?_
  clear hM
  intro w4 hM hF
  (((refine Bc hM ?_;clear hM;intro _ hM;refine Bz hM ?_)))
  exact⟨rfl,hM.st⟩
theorem aXe (l:List Kr) (hl:l.length≤1000) (h:TrF H v t) (hs:Sl H 33 K (l.map Kr.fds)) (hf:Fz H w):
  Calls prog 130 #[v,.slice K l.length kc] w (Outp H w fun H' r=>∃ K2 kc2,r=.slice K2 (keepT t l).length kc2∧Sl H' 33 K2 ((keepT t l).map Ky.fds)):=by
 obtain⟨w1,hw1⟩:∃ w1,w1=w:=⟨_,rfl⟩
 rw[← hw1]
 rw[← hw1]at hf
 have hM:=Mem.start hf
 have hx:=h.ex
 obtain⟨TA,ta,TB,tb,tq,rfl,-⟩:=hx
 refine aEp ?_
 unfold Tt
 (((refine Bh hM ?_;clear hM;intro _ _ hM;refine An hM ?_)))
 refine Bn hM (aFr h hM.fz) (fun w hM=>?_)
 cases hr:t.right
 ·(((refine Ab trivial ?_;refine Am ?_)))
  refine hM.out (Le.refl _ _) ⟨none,0,?_,?_⟩
  ·unfold keepT
   rw[hr]
   rfl
  ·unfold keepT
   rw[hr]
   exact Sl.nil _ _ _
 have hR:=Tr.rt.1 hr
 have hlen:=hR.len
 have hts:t.size=t.ls.length:=rfl
 have hkt:keepT t l=sortedK (keepL t l):=if_pos hr
 rw[hkt]
 (((refine Ab trivial ?_;refine Aj ?_;refine Ab trivial ?_)))
 rename_i g1 _ _
 have h0:Mem H w1 (rowR 128 33 none 0 0 ((keepL t (l.take 0)).map Ky.fds)::_) _:=hM.row0 128 33
 refine⟨fun v u w'=>∃ (i:Nat) (K2:Option Addr) (kc2:Nat),v=.slice K2 (keepL t (l.take i)).length kc2∧u=.int .i64 i∧i≤l.length∧Mem H w1 [rowR 128 33 K2 (keepL t (l.take i)).length kc2 ((keepL t (l.take i)).map Ky.fds),fb g1 58 (tfd TA t.ls.length ta TB t.ps.length tb)] w',fun _ u _=>match u with | .int _ k=>l.length - k.toNat|_=>0,⟨0,none,0,rfl,rfl,by omega,h0⟩,?_⟩
 clear hM h0
 rintro v u u4 w4 ⟨i,K2,kc2,rfl,rfl,hi,hM⟩
 have hkl:(keepL t (l.take i)).length≤1000:=by
  have:=List.length_filterMap_le (keep1 t) (l.take i)
  rw[List.length_take]at this
  show(List.filterMap _ _).length≤_
  omega
 skip
 (((refine Aw trivial ?_ ?_)))
 ·intro hlt
  have hlt':i<l.length:=by omega
  have hst:=aLb (t:=t) hlt'
  obtain⟨k,hk⟩:∃ k,l[i]=k:=⟨_,rfl⟩
  rw[hk]at hst
  have hq:(l.map Kr.fds)[((i:Int)).toNat]?=some k.fds:=by
   rw[Int.toNat_natCast,← hk]
   exact Ct hlt'
  (((refine Am ?_)))
  refine⟨fun v w'=>∃ (K3:Option Addr) (kc3:Nat),v=.slice K3 (keepL t (l.take (i+1))).length kc3∧Mem H w1 [rowR 128 33 K3 (keepL t (l.take (i+1))).length kc3 ((keepL t (l.take (i+1))).map Ky.fds),fb g1 58 (tfd TA t.ls.length ta TB t.ps.length tb)] w',?_,?_⟩
  ·((refine Ci ‹_› ?_ ?_ ?_);(focus (simp only[List.length_map];omega));(focus (simp only[List.length_map];first|done|omega));((intro _ _ hA));(cases hA);(refine Cb hM ‹_› (By ?_) ?_);(focus omega);((refine Bf hM ?_;clear hM;intro _ _ hM;refine Az hM ?_;clear hM;intro _ hM)))
   rename_i gk _ _
   rw[hk]at hM
   have hM:Mem H w1 [fb gk 128 k.fds,rowR 128 33 K2 (keepL t (l.take i)).length kc2 ((keepL t (l.take i)).map Ky.fds),fb g1 58 (tfd TA t.ls.length ta TB t.ps.length tb)] _:=hM
   refine⟨fun w'=>(0≤k.node∧k.node≤2*t.size - 2)∧hM.now w',?_,?_⟩
   ·by_cases hr2:0≤k.node∧k.node≤2*t.size - 2
    ·(((refine Ab trivial ?_;refine An hM ?_;refine Bm trivial ?_ ?_));(focus (first|assumption|omega|with_reducible rfl|exact fun h=>Bool.noConfusion h));((refine Ae ?_;refine Ab trivial ?_;refine Ae ?_;refine An hM ?_;refine Ae ?_;refine Ab trivial ?_;refine Ae ?_;refine An hM ?_;refine Ae ?_;refine Ab trivial ?_;refine Ae ?_;refine Ab ?_ ?_));(focus omega);((refine Ae ?_;refine Ab ?_ ?_));(focus omega);((refine Ae ?_;refine Bm trivial ?_ ?_));(focus (first|assumption|omega|with_reducible rfl|exact fun h=>Bool.noConfusion h));((refine Ab trivial ?_;refine Aj ?_)))
     exact⟨hr2,hM⟩
    ·have hno:keep1 t k=none:=aIl fun h=>hr2 ⟨h.1.1,h.2.1⟩
     rw[hno,Option.toList_none,List.append_nil]at hst
     by_cases hr3:k.node<0
     ·(((refine Ab trivial ?_;refine An hM ?_;refine Bt trivial ?_ ?_));(focus (first|assumption|omega|with_reducible rfl|exact fun h=>Bool.noConfusion h));(((iterate 8 refine Av ?_);refine Ab trivial ?_;refine Am ?_)))
      exact⟨K2,kc2,by rw[hst],by rw[hst];exact hM.sub⟩
     ·(((refine Ab trivial ?_;refine An hM ?_;refine Bm trivial ?_ ?_));(focus (first|assumption|omega|with_reducible rfl|exact fun h=>Bool.noConfusion h));((refine Ae ?_;refine Ab trivial ?_;refine Ae ?_;refine An hM ?_;refine Ae ?_;refine Ab trivial ?_;refine Ae ?_;refine An hM ?_;refine Ae ?_;refine Ab trivial ?_;refine Ae ?_;refine Ab ?_ ?_));(focus omega);((refine Ae ?_;refine Ab ?_ ?_));(focus omega);((refine Ae ?_;refine Bt trivial ?_ ?_));(focus (first|assumption|omega|with_reducible rfl|exact fun h=>Bool.noConfusion h));((refine Ab trivial ?_;refine Am ?_)))
      exact⟨K2,kc2,by rw[hst],by rw[hst];exact hM.sub⟩
   rintro u6 w6 ⟨hr2,hM⟩
   have hk1:(0≤k.node∧k.node≤1000):=by omega
   (((refine An hM ?_;refine Ab trivial ?_;refine An hM ?_)))
   refine Bn hM (aNd k.node hr2 hR h hM.fz) (fun w hM=>?_)
   (((refine Ab trivial ?_;refine Ab trivial ?_;refine Bf hM ?_;clear hM;intro _ _ hM;refine Az hM ?_;clear hM;intro _ hM)))
   rename_i gp _ _
   obtain⟨pb,hpb⟩:∃ pb,pubAt t k.node=pb:=⟨_,rfl⟩
   obtain⟨pp,ps⟩:=pb
   rw[hpb]at hM ⊢
   dsimp only at hM ⊢
   refine⟨fun v w'=>v=.bool (decide (pubAt t k.node=(pubH k.priv,true)))∧hM.now w',?_,?_⟩
   ·cases ps
    ·(((refine Iz ?_;refine Iz ?_;refine Bv ?_;refine Iz ?_;refine Iz ?_;refine Ap trivial ?_;refine Bc hM (fun _ hM2=>?_);replace hM:=hM2;clear hM2)))
     exact⟨by rw[hpb,decide_eq_false (by simp)],hM⟩
    ·(((refine Bg ?_;refine Ap trivial ?_;refine Bg ?_;refine Ba hM ?_;refine Ae ?_;refine Bs hM ?_ (fun _ _ hM=>?_)));(focus (first|exact trivial|assumption|omega));((refine Bg ?_));(refine Ba ‹Mem _ _ _ _› ?_);((refine Bg ?_)))
     refine Ap trivial ?_
     (((refine Ap trivial ?_;refine Bc hM ?_;clear hM;intro _ hM)))
     refine⟨?_,hM⟩
     rw[hpb,Value.bool.injEq,decide_eq_decide,Prod.mk.injEq]
     exact⟨fun h=>⟨h.symm,rfl⟩,fun h=>h.1.symm⟩
   rintro v u7 w7 ⟨rfl,hM⟩
   by_cases hpk:pubAt t k.node=(pubH k.priv,true)
   ·rw[aPs hk1 hr2.2 hpk,Option.toList_some]at hst
    rw[decide_eq_true hpk]
    (((refine Am ?_;refine An hM ?_;refine Bx hM ?_ ?_ ?_));(focus rfl);(focus (constructor <;> simp));((clear hM;intro _ _ hM;refine Co hM ?_ ?_));(focus omega);((clear hM;intro _ _ _ hM)))
    rename_i A3 c3 _
    have hM:Mem H w1 [rowR 128 33 A3 ((keepL t (l.take i)).length+1) c3 ((keepL t (l.take i)).map Ky.fds++[k.fds]),fb g1 58 (tfd TA t.ls.length ta TB t.ps.length tb)] _:=hM.sub
    have e:(keepL t (l.take i)).map Ky.fds++[k.fds]=(keepL t (l.take (i+1))).map Ky.fds:=by
     rw[hst,List.map_append]
     rfl
    have e2:(keepL t (l.take i)).length+1=(keepL t (l.take (i+1))).length:=by
     rw[hst,List.length_append]
     rfl
    rw[e,e2]at hM
    exact⟨A3,c3,by rw[e2],hM⟩
   ·have hno:keep1 t k=none:=aIl fun h=>hpk h.2.2
    rw[hno,Option.toList_none,List.append_nil]at hst
    rw[decide_eq_false hpk]
    (((refine Aj ?_)))
    exact⟨K2,kc2,by rw[hst],by rw[hst];exact hM.sub⟩
  clear hM
  rintro v u5 w5 ⟨K3,kc3,rfl,hM⟩
  (((refine Ab ?_ ?_));(focus omega))
  exact⟨⟨i+1,K3,kc3,rfl,by rw[Value.int.injEq];refine⟨rfl,?_⟩;push_cast;rfl,by omega,hM⟩,by simp only;omega⟩
 ·intro hge
  obtain rfl:i=l.length:=by omega
  rw[List.take_length]at hM hkl ⊢
  (((refine Aj ?_)))
  refine Bi (aDq (keepL t l) rfl (by omega) (hM.reads (A:=K2)) hM) ?_
  clear hM
  rintro v w5 ⟨A',c',rfl,hM⟩
  skip
  obtain⟨H4,l4,hM,hs4,-⟩:=hM.fz0
  exact hM.out l4 ⟨A',c',rfl,hs4⟩
end
end Go.Proofs.YtgbenhmdamnmcaaGreat
namespace Go.Proofs.YtgbenhmdamnmcaaGreat
open Go.Proofs.Tryz
open Go.RowKit Go.Lib
end Go.Proofs.YtgbenhmdamnmcaaGreat
namespace Go.Proofs.YtgbenhmdamnmcaaGreat
open Go.Proofs.Tryz
open Go.RowKit Go.Lib
theorem aUj (a b:ByteArray):ints (a++b)=ints a++ints b:=by simp[ints]
section
variable {H:Hp} {w0 w:World} {L R:List Res} {A B K:Option Addr} {a c n m kc:Nat} {t:Tr} {v:Value}
theorem bAy (h:H32) (w:World):Calls prog 136 #[ha h] w fun en w'=>en=.returned (.string (strOfNums h.1))∧St w [] w':=by
 have hM:=Mem.start (Fz.of w)
 refine Mh ?_
 unfold Hm
 (((refine Bh hM ?_;clear hM;intro _ _ hM;refine Ab trivial ?_;refine Jh hM ?_)))
 exact⟨rfl,hM.st⟩
theorem aUk (k:H32) (w:World):Calls prog 71 #[ha k] w fun en w'=>en=.returned (ha (pubH k))∧St w [] w':=by
 have hM:=Mem.start (Fz.of w)
 have hs:(strOfNums k.1).size=32:=by rw[strOfNums_size,k.2.1]
 have h3:spub.size=3:=rfl
 refine Nx ?_
 unfold Ir
 (((refine Bh hM ?_;clear hM;intro _ _ hM;refine Bf hM ?_;clear hM;intro _ _ hM;refine An hM ?_;refine Bl hM ?_ ?_));(focus (first|exact trivial|assumption|omega));((clear hM;intro _ hM)))
 refine Ab (by rw[hs];show 3+_≤_;omega) ?_
 have hs2:(spub++strOfNums k.1).size<1099511627776:=by rw[ByteArray.size_append,hs,h3];decide
 refine Bn hM (Vw _ _ hs2) (fun w2 hM=>?_)
 have e:hv (shaSum (ints (spub++strOfNums k.1)))=.agg (u8s (pubH k).1).toArray:=by
  rw[aUj,Iu]
  rfl
 rw[e]
 (((refine Az hM ?_;clear hM;intro _ hM;refine Bz hM ?_)))
 exact⟨rfl,hM.st⟩
instance (k:H32):PurC prog 71 [.agg (u8s k.1).toArray] True (.agg (u8s (pubH k).1).toArray):=⟨fun _ w=>aUk k w⟩
end
end Go.Proofs.YtgbenhmdamnmcaaGreat
namespace Go.Proofs.YtgbenhmdamnmcaaGreat
open Go.Proofs.Tryz
open Go.RowKit Go.Lib
def idxI {α:Type} (f:α→Bool) (l:List α):Int:=match l.findIdx? f with
 | some i=>i
 | none => -1
theorem aNe {α:Type} {f:α→Bool} {l:List α} {i:Nat} (hi:i<l.length) (h:∀ j (hj:j<i),f (l[j]'(by omega))=false) (hf:f l[i]=true):idxI f l=i:=by
 unfold idxI
 have:l.findIdx? f=some i:=List.findIdx?_eq_some_iff_getElem.2 ⟨hi,hf,fun j hj=>by simp[h j hj]⟩
 rw[this]
theorem aDr {α:Type} {f:α→Bool} {l:List α} (h:∀ j (hj:j<l.length),f l[j]=false):idxI f l = -1:=by
 unfold idxI
 have:l.findIdx? f=none:=by
  rw[List.findIdx?_eq_none_iff]
  intro x hx
  obtain⟨j,hj,rfl⟩:=List.mem_iff_getElem.1 hx
  exact h j hj
 rw[this]
theorem aBi {α:Type} (f:α→Bool) (l:List α):(idxI f l = -1∧∀ x∈l,f x=false)∨∃ i:Nat,∃ hi:i<l.length,idxI f l=i∧f l[i]=true∧∀ j (hj:j<i),f (l[j]'(by omega))=false:=by
 unfold idxI
 cases h:l.findIdx? f with
 | none=>exact .inl ⟨rfl,by simpa [List.findIdx?_eq_none_iff] using h⟩
 | some i=>
   obtain⟨h1,h2,h3⟩:=List.findIdx?_eq_some_iff_getElem.1 h
   exact .inr ⟨i,h1,rfl,h2,fun j hj=>by simpa using h3 j hj⟩
abbrev ivv (y:Int):Value:=.int .i64 y
theorem aLg (l:List Int) (i:Nat):(ints8 l).take i=ints8 (l.take i):=by simp[ints8]
theorem aPw (l:List Int) (i:Nat) (x:Int):(ints8 l).set i [.one (.int .i64 x)]=ints8 (l.set i x):=(List.map_set (f:=fun x=>[Fd.one (.int .i64 x)])).symm
theorem aUl {α:Type} (l:List α) (i:Nat) (x:α) (h:i<l.length):(l.set i x).take (i+1)=l.take i++[x]:=by
 rw[List.take_succ_eq_append_getElem (by simpa using h),List.getElem_set_self,List.take_set_of_le (Nat.le_refl i)]
section
variable {H:Hp} {w0 w:World} {L R:List Res} {A B K F:Option Addr} {a c n m kc fc:Nat} {t:Tr} {v:Value}
theorem bAo (l:List Int) (hl:l.length≤100) (hr:∀ x∈l,0≤x∧x≤4611686018427387903) (hs:Sl H 1 K (ints8 l)) (hf:Fz H w):Calls prog 153 #[.slice K l.length kc] w fun en w'=>en=.returned (.string (strOfNums (l.flatMap numB)))∧St w [] w':=by
 have hM:=Mem.start hf
 refine aHa ?_
 unfold Xd
 refine Bi (Hw hM) ?_
 clear hM
 rintro v w2 ⟨g,rfl,hM⟩
 (((refine Ab trivial ?_)))
 refine⟨fun v w'=>∃ i:Nat,v=.int .i64 i∧i≤l.length∧((l.take i).flatMap numB).length≤8*i∧Mem H w [wrR g ((l.take i).flatMap numB) false] w',fun v _=>match v with | .int _ k=>l.length - k.toNat|_=>0,⟨0,rfl,by omega,by simp,hM⟩,?_⟩
 clear hM
 rintro v u w3 ⟨i,rfl,hi,hb,hM⟩
 skip
 (((refine Aw trivial ?_ ?_)))
 ·intro hlt
  have hit:i<l.length:=by omega
  have hx:=hr _ (List.getElem_mem hit)
  have hnl:=Be l[i]
  (((refine Am ?_));(refine Ci ‹_› ?_ ?_ ?_);(focus (simp only[List.length_map];omega));(focus (simp only[List.length_map];first|done|omega));((intro _ _ hA));(cases hA);(refine Cb hM ‹_› (By ?_) ?_);(focus omega))
  refine Bi (Da l[i] hx (by omega) hM) ?_
  clear hM
  rintro v w4 ⟨rfl,hM⟩
  (((refine Ab ?_ ?_));(focus omega))
  have e:(l.take i).flatMap numB++numB l[i]=(l.take (i+1)).flatMap numB:=by
   rw[List.take_succ_eq_append_getElem hit,List.flatMap_append]
   simp
  have hb2:((l.take (i+1)).flatMap numB).length≤8*(i+1):=by
   rw[← e,List.length_append]
   omega
  rw[e]at hM
  exact⟨⟨i+1,by rw[Value.int.injEq];refine⟨rfl,?_⟩;push_cast;rfl,by omega,hb2,hM⟩,by simp only;omega⟩
 ·intro hge
  obtain rfl:i=l.length:=by omega
  rw[List.take_length]at hM
  (((refine Aj ?_)))
  refine Bn hM (Ia hM) (fun w5 hM=>?_)
  (((refine Ab trivial ?_;refine Ab trivial ?_)))
  exact⟨rfl,hM.st⟩
theorem aPx (l:List Int) (x:Int) (hl:l.length≤maxLen) (hs:Sl H 1 K (ints8 l)) (hf:Fz H w):Calls prog 91 #[.slice K l.length kc,.int .i64 x] w fun en w'=>en=.returned (.int .i64 (idxI (fun y=>decide (x=y)) l))∧St w [] w':=by
 have hM:=Mem.start hf
 have hl':l.length≤9223372036854775807:=hl
 refine Nh ?_
 unfold Gu
 (((refine Ab trivial ?_)))
 refine⟨fun v w'=>∃ i:Nat,v=.int .i64 i∧i≤l.length∧(∀ j (hj:j<l.length),j<i→decide (x=l[j])=false)∧hM.now w',fun v _=>match v with | .int _ k=>l.length - k.toNat|_=>0,⟨0,rfl,by omega,by intro j hj h;omega,hM⟩,?_⟩
 rintro v u w3 ⟨i,rfl,hi,hlow,hM⟩
 skip
 (((refine Aw trivial ?_ ?_)))
 ·intro hlt
  have hit:i<l.length:=by omega
  (((refine Am ?_));(refine Ci ‹_› ?_ ?_ ?_);(focus (simp only[List.length_map];omega));(focus (simp only[List.length_map];first|done|omega));((intro _ _ hA));(cases hA);(refine Cb hM ‹_› (By ?_) ?_);(focus omega))
  (((refine Aw trivial ?_ ?_)))
  ·intro hx
   (((refine Am ?_)))
   exact⟨by rw[aNe (i:=i) hit (fun j hj=>hlow j (by omega) hj) (decide_eq_true hx)],hM.st⟩
  ·intro hx
   (((refine Aj ?_;refine Ab ?_ ?_));(focus omega))
   exact⟨⟨i+1,by rw[Value.int.injEq];refine⟨rfl,?_⟩;push_cast;rfl,by omega,fun j hj hji=>by
    rcases Nat.lt_or_ge j i with h|h
    ·exact hlow j hj h
    ·obtain rfl:j=i:=by omega
     exact decide_eq_false hx,hM⟩,by simp only;omega⟩
 ·intro hge
  (((refine Aj ?_)))
  exact⟨by rw[aDr fun j hj=>hlow j hj (by omega)],hM.st⟩
theorem aFt (l:List Int) (x:Int) (hl:l.length≤maxLen) (hs:Sl H 1 K (ints8 l)) (hf:Fz H w):Calls prog 191 #[.slice K l.length kc,.int .i64 x] w fun en w'=>en=.returned (.bool (decide (x∈l)))∧St w [] w':=by
 have hM:=Mem.start hf
 refine Jy ?_
 unfold Fq
 refine Bn hM (aPx l x hl hs hM.fz) (fun w hM=>?_)
 rcases aBi (fun y=>decide (x=y)) l with ⟨e,h⟩|⟨i,hi,e,h,-⟩
 ·rw[e,decide_eq_false (fun hm=>by have:=h x hm;simp at this)]
  (((refine Bm trivial ?_ ?_));(focus (first|assumption|omega|with_reducible rfl|exact fun h=>Bool.noConfusion h)))
  exact⟨rfl,hM.st⟩
 ·have hm:x∈l:=by
   have:=of_decide_eq_true h
   rw[this]
   exact List.getElem_mem hi
  rw[e,decide_eq_true hm]
  (((refine Bt trivial ?_ ?_));(focus (first|assumption|omega|with_reducible rfl|exact fun h=>Bool.noConfusion h)))
  exact⟨rfl,hM.st⟩
def isF (fresh:List Int) (y:Int):Bool:=decide (y.tmod 2=0∧IntKind.i64.wrap (y.tdiv 2)∈fresh)
theorem aPy (g:Nat) (fresh:List Int) (y:Int) (hl:fresh.length≤maxLen) (hs:Sl H 1 F (ints8 fresh)) (hM:Mem H w0 (fb g 133 [.one (.slice F fresh.length fc)]::R) w):
  Calls prog 190 #[.int .i64 y,.pointer (some ⟨g,0,none⟩)] w fun en w'=>en=.returned (.bool (isF fresh y))∧Mem H w0 (fb g 133 [.one (.slice F fresh.length fc)]::R) w':=by
 refine Vs ?_
 unfold Mm isF
 refine Br (aYg _ _ _ _ _ (by decide)) ?_
 by_cases h:y.tmod 2=0
 ·refine Bt trivial h ?_
  (((refine Ae ?_;refine An hM ?_;refine Ae ?_;refine Ab trivial ?_;refine Ae ?_)))
  refine Br (aYh _ _ _ _ _ (by decide)) ?_
  (((refine Ae ?_)))
  refine Bn hM (aFt fresh (IntKind.i64.wrap (y.tdiv 2)) hl hs hM.fz) (fun w hM=>?_)
  (((refine Ab trivial ?_)))
  exact⟨by rw[decide_eq_decide.2 (show(y.tmod 2=0∧IntKind.i64.wrap (y.tdiv 2)∈fresh)↔IntKind.i64.wrap (y.tdiv 2)∈fresh from⟨fun k=>k.2,fun k=>⟨h,k⟩⟩)],hM⟩
 ·refine Bm trivial h ?_
  ((((iterate 4 refine Bv ?_);refine Ab trivial ?_)))
  exact⟨by rw[decide_eq_false (fun k=>h k.1)],hM⟩
theorem aXf {r:Res} {cl:Value} {f:Int→Bool} (xs:List Int) (hn:xs.length=n) (hc:Clo prog H w0 r cl ivv f) (hM:Mem H w0 (r::rowR 3 1 A n c (ints8 xs)::R) w) (hb:n<1000000):
  Calls prog 178 #[.slice A n c,cl] w fun en w'=>∃ v,en=.returned v∧v=.int .i64 (idxI f xs)∧Mem H w0 (r::rowR 3 1 A n c (ints8 xs)::R) w':=by
 subst hn
 refine Fg ?_
 unfold Du
 (((refine Ab trivial ?_)))
 refine⟨fun x w=>∃ i:Nat,x=.int .i64 i∧i≤xs.length∧(∀ j (hj:j<xs.length),j<i→f xs[j]=false)∧hM.now w,fun x _=>match x with | .int _ i=>xs.length - i.toNat|_=>0,⟨0,rfl,by omega,by intro j hj h;omega,hM⟩,?_⟩
 rintro x u w ⟨i,rfl,hi,hf,hM⟩
 (((refine Aw trivial ?_ ?_)))
 ·intro hlt
  have hit:i<xs.length:=by omega
  (((refine Am ?_;refine Zg hM ?_ ?_));(focus omega);((intro _ hA));(cases hA);((refine Yg hM (By ?_) ?_));(focus omega))
  refine hc _ _ _ _ _ hM (fun w hM=>?_)
  cases hfi:f xs[i]
  ·(((refine Aj ?_;refine Ab ?_ ?_));(focus omega))
   exact⟨⟨i+1,by rw[Value.int.injEq];refine⟨rfl,?_⟩;push_cast;rfl,by omega,fun j hj hji=>by
    rcases Nat.lt_or_ge j i with h|h
    ·exact hf j hj h
    ·obtain rfl:j=i:=by omega
     exact hfi,hM⟩,by simp only;omega⟩
  ·(((refine Am ?_)))
   exact⟨_,rfl,by rw[aNe (i:=i) hit (fun j hj=>hf j (by omega) hj) hfi],hM⟩
 ·intro hge
  (((refine Aj ?_)))
  exact⟨_,rfl,by rw[aDr fun j hj=>hf j hj (by omega)],hM⟩
theorem aXg {r:Res} {cl:Value} {f:Int→Bool} (xs:List Int) (hn:xs.length=n) (hc:Clo prog H w0 r cl ivv f) (hM:Mem H w0 (r::rowR 3 1 A n c (ints8 xs)::R) w) (hb:n<1000000):
  Calls prog 189 #[.slice A n c,cl] w fun en w'=>∃ v,en=.returned v∧v=.slice A (xs.filter fun x=>!f x).length c∧Mem H w0 (r::rowR 3 1 A (xs.filter fun x=>!f x).length c (ints8 (xs.filter fun x=>!f x))::R) w':=by
 refine Ix ?_
 unfold Fa
 refine Bi (aXf xs hn hc hM hb) ?_
 clear hM
 rintro v w2 ⟨rfl,hM⟩
 rcases aBi f xs with ⟨hi,hall⟩|⟨i0,hi0,hi,hfi,hlow⟩
 ·rw[hi]
  (((refine Bt trivial ?_ ?_));(focus (first|assumption|omega|with_reducible rfl|exact fun h=>Bool.noConfusion h));((refine Am ?_)))
  have e:xs.filter (fun x=>!f x)=xs:=List.filter_eq_self.2 fun x hx=>by simp[hall x hx]
  rw[e,hn]
  exact⟨_,rfl,rfl,hM⟩
 ·rw[hi]
  have hcl:n≤c:=((hM.up A).rowLen ⟨.refl _⟩).2.1
  (((refine Bm trivial ?_ ?_));(focus (first|assumption|omega|with_reducible rfl|exact fun h=>Bool.noConfusion h));((refine Aj ?_;refine Ab ?_ ?_));(focus omega))
  have e0:(xs.take (i0+1)).filter (fun x=>!f x)=xs.take i0:=by
   rw[List.take_succ_eq_append_getElem hi0,List.filter_append,List.filter_eq_self.2 fun x hx=>?_]
   ·simp[hfi]
   ·obtain⟨j,hj,rfl⟩:=List.mem_iff_getElem.1 hx
    have hj2:j<i0:=by simp at hj;omega
    simp[hlow j hj2]
  obtain⟨g,rfl⟩:=(hM.up A).rowAt ⟨.refl _⟩ (by omega)
  refine⟨fun x y w'=>∃ (i j:Nat) (ys:List Int),x=.int .i64 i∧y=.int .i64 j∧i<j∧j≤n∧ys.length=n∧ys.take i=(xs.take j).filter (fun x=>!f x)∧ys.drop j=xs.drop j∧Mem H w0 (r::rowR 3 1 (some ⟨g,0,none⟩) n c (ints8 ys)::R) w',
   fun _ y _=>match y with | .int _ j=>n - j.toNat|_=>0,⟨i0,i0+1,xs,rfl,by rw[Value.int.injEq];refine⟨rfl,?_⟩;push_cast;rfl,by omega,by omega,hn,e0.symm,rfl,hM⟩,?_⟩
  clear hM
  rintro x y u w3 ⟨i,j,ys,rfl,rfl,hij,hjn,hyl,htk,hdr,hM⟩
  (((refine Ab trivial ?_)))
  (((refine Aw trivial ?_ ?_)))
  ·intro hlt
   have hj1:j<ys.length:=by omega
   have hj2:j<xs.length:=by omega
   have hyj:ys[j]=xs[j]:=by
    have:=congrArg (·[0]?) hdr
    simpa [hj1,hj2] using this
   have hd1:ys.drop (j+1)=xs.drop (j+1):=by
    have:=congrArg (List.drop 1) hdr
    simpa [List.drop_drop] using this
   (((refine Am ?_)))
   refine⟨fun x w'=>∃ (i:Nat) (ys:List Int),x=.int .i64 i∧i<j+1∧ys.length=n∧ys.take i=(xs.take (j+1)).filter (fun x=>!f x)∧ys.drop (j+1)=xs.drop (j+1)∧Mem H w0 (r::rowR 3 1 (some ⟨g,0,none⟩) n c (ints8 ys)::R) w',?_,?_⟩
   ·(((refine Zg hM ?_ ?_));(focus omega);((intro _ hA));(cases hA);((refine Yg hM (By ?_) ?_));(focus omega))
    refine hc ys[j] _ _ _ _ (hM.at_ r) (fun w hM=>?_)
    rw[hyj,List.take_succ_eq_append_getElem hj2,List.filter_append]
    cases hf:f xs[j]
    ·(((refine Ab trivial ?_;refine Am ?_;refine Zg hM ?_ ?_));(focus omega);((intro _ hA));(cases hA);((refine aKb hM ?_ ?_));(focus omega);((clear hM;intro _ hM;refine Ab ?_ ?_));(focus omega))
     refine⟨i+1,ys.set i xs[j],by rw[Value.int.injEq];refine⟨rfl,?_⟩;push_cast;rfl,by omega,by simpa using hyl,?_,?_,?_⟩
     ·rw[aUl _ _ _ (by omega),htk]
      simp[hf]
     ·rw[List.drop_set_of_lt (by omega),hd1]
     ·rw[aPw,Int.toNat_natCast]at hM
      exact hM.sub
    ·(((refine Ab trivial ?_;refine Aj ?_)))
     exact⟨i,ys,rfl,by omega,hyl,by simp[hf,htk],hd1,hM.sub⟩
   ·clear hM
    rintro x u w4 ⟨i,ys,rfl,hij,hyl,htk,hdr,hM⟩
    (((refine Ab ?_ ?_));(focus omega))
    exact⟨⟨i,j+1,ys,rfl,by rw[Value.int.injEq];refine⟨rfl,?_⟩;push_cast;rfl,by omega,by omega,hyl,htk,hdr,hM⟩,by simp only;omega⟩
  ·intro hge
   have:j=n:=by omega
   subst this
   rw[← hn,List.take_length]at htk
   have hlen:i=(xs.filter fun x=>!f x).length:=by rw[← htk,List.length_take];omega
   (((refine Aj ?_;refine Ab ?_ ?_));(focus omega))
   rw[Int.toNat_natCast]
   refine aHk hM (k:=i) (by omega) (fun w4 hM=>?_)
   (((refine Ab ?_ ?_));(focus omega))
   rw[aLg,htk,hlen]at hM
   rw[Int.toNat_natCast,hlen]
   exact⟨_,rfl,rfl,hM.same⟩
end
end Go.Proofs.YtgbenhmdamnmcaaGreat
namespace Go.Proofs.YtgbenhmdamnmcaaGreat
open Go.Proofs.Tryz
open Go.RowKit Go.Lib
theorem Mem.joinO {H:Hp} {w0 w w':World} {L L':List Res} (h:Mem H w0 L w) (hc:Mem (Hp.of w) w L' w'):Mem H w0 (L'++L) w':=h.join (hc.weak (Kw h.fz)) fun _ _ e=>e
theorem aIo (a b:List H32):kfds (a++b)=kfds a++kfds b:=by simp[kfds]
def IrF (H:Hp) (q:List Fd) (l:List Int):Prop:=∃ C c,q=[.one (.slice C l.length c)]∧Sl H 1 C (ints8 l)∧l.length≤40000
theorem IrF.mono {H H':Hp} {q:List Fd} {l:List Int} (h:IrF H q l) (k:H.le H'):IrF H' q l:=by
 obtain⟨C,c,h1,h2,h3⟩:=h
 exact⟨C,c,h1,h2.mono k,h3⟩
theorem All2.snoc {α:Type} {r:List Fd→α→Prop}:∀ {ps:List (List Fd)} {xs:List α} {q:List Fd} {x:α},All2 r ps xs→r q x→All2 r (ps++[q]) (xs++[x])
 | [],[],_,_,_,h=>⟨h,trivial⟩
 | _::_,_::_,_,_,h,k=>⟨h.1,h.2.snoc k⟩
 | [],_::_,_,_,h,_=>h.elim
 | _::_,[],_,_,h,_=>h.elim
section
variable {H:Hp} {w0 w:World} {L R:List Res} {A B K F:Option Addr} {a c n m kc fc:Nat} {t:Tr} {v:Value}
theorem aPz (g:Nat) (fresh:List Int) (hl:fresh.length≤maxLen) (hs:Sl H 1 F (ints8 fresh)):Clo prog H w0 (fb g 133 [.one (.slice F fresh.length fc)]) (.func (.func 190) #[] #[.pointer (some ⟨g,0,none⟩)]) ivv (isF fresh):=fun y R w K X hM hk=>by
 refine En (aPy (fc:=fc) g fresh y hl hs hM) ?_
 rintro en w' ⟨rfl,hM⟩
 exact hk _ hM
theorem bBq (way:List Int) (s:H32) (hl:way.length≤100) (hr:∀ x∈way,0≤x∧x≤1000) (hs:Sl (Hp.of w) 1 A (ints8 way)) (hM:Mem H w0 L w):
  Calls prog 150 #[.pointer none,.slice A way.length a,ha s] w fun en w'=>∃ v,en=.returned v∧∃ K1 c1 K2 c2,v=.tuple #[.slice K1 way.length c1,.slice K2 way.length c2,ha (comS s way.length)]∧Mem H w0 (rowR 23 32 K1 way.length c1 (kfds (secL s way.length))::rowR 128 33 K2 way.length c2 ((keysL way s way.length).map Ky.fds)::L) w':=by
 obtain⟨H1,hH1⟩:∃ H1,H1=Hp.of w:=⟨_,rfl⟩
 have hs0:Mem (Hp.of w) w [] w:=Mem.start (Fz.of w)
 rw[← hH1]at hs hs0
 suffices h:Calls prog 150 #[.pointer none,.slice A way.length a,ha s] w fun en w'=>∃ v,en=.returned v∧∃ K1 c1 K2 c2,v=.tuple #[.slice K1 way.length c1,.slice K2 way.length c2,ha (comS s way.length)]∧Mem H1 w (rowR 23 32 K1 way.length c1 (kfds (secL s way.length))::rowR 128 33 K2 way.length c2 ((keysL way s way.length).map Ky.fds)::[]) w' from
  h.mono fun en w' ⟨v,e,K1,c1,K2,c2,e2,hM2⟩=>⟨v,e,K1,c1,K2,c2,e2,hM.joinO (by rw[hH1]at hM2;exact hM2)⟩
 have d1:spath.size≤1000000∧es0.size≤1000000:=by decide
 have d2:bnode.size≤1000000∧es0.size≤1000000:=by decide
 have d3:scommit.size≤1000000∧es0.size≤1000000:=by decide
 clear hM hH1
 obtain⟨w1,hw1⟩:∃ w1,w1=w:=⟨_,rfl⟩
 rw[← hw1]
 rw[← hw1]at hs0
 have hM:=hs0
 clear hs0
 refine aJq ?_
 unfold aAb
 (((refine Bh hM ?_;clear hM;intro _ _ hM;refine Bf hM ?_;clear hM;intro _ _ hM;refine Ab trivial ?_)))
 rename_i gs _ gr _
 have h0:Mem H1 w1 (rowR 23 32 none 0 0 (kfds (secL s 0))::rowR 128 33 none 0 0 ((keysL way s 0).map Ky.fds)::fb gs 23 [.arr 32 (u8s (secK s (0 - 1)).1)]::[fb gr 23 [.arr 32 (u8s hzero.1)]]) _:=(((hM.row0 128 33).row0 23 32).sub:Mem H1 w1 [rowR 23 32 none 0 0 [],rowR 128 33 none 0 0 [],fb gs 23 [.arr 32 (u8s s.1)],fb gr 23 [.arr 32 (u8s hzero.1)]] _)
 refine⟨fun v1 v2 v3 w'=>∃ (i:Nat) (K1 K2:Option Addr) (c1 c2:Nat),v1=.slice K1 i c1∧v2=.slice K2 i c2∧v3=.int .i64 i∧i≤way.length∧Mem H1 w1 [rowR 23 32 K1 i c1 (kfds (secL s i)),rowR 128 33 K2 i c2 ((keysL way s i).map Ky.fds),fb gs 23 [.arr 32 (u8s (secK s (i - 1)).1)],fb gr 23 [.arr 32 (u8s hzero.1)]] w',fun _ _ v _=>match v with | .int _ k=>way.length - k.toNat|_=>0,⟨0,none,none,0,0,rfl,rfl,rfl,by omega,h0⟩,?_⟩
 clear hM h0
 rintro v1 v2 v3 u4 w4 ⟨i,K1,K2,c1,c2,rfl,rfl,rfl,hi,hM⟩
 skip
 (((refine Aw trivial ?_ ?_)))
 ·intro hlt
  have hit:i<way.length:=by omega
  have hx:=hr _ (List.getElem_mem hit)
  (((refine Am ?_));(refine Ci ‹_› ?_ ?_ ?_);(focus (simp only[List.length_map];omega));(focus (simp only[List.length_map];first|done|omega));((intro _ _ hA));(cases hA);(refine Cb hM ‹_› (By ?_) ?_);(focus omega))
  refine⟨fun w'=>Mem H1 w1 [rowR 23 32 K1 i c1 (kfds (secL s i)),rowR 128 33 K2 i c2 ((keysL way s i).map Ky.fds),fb gs 23 [.arr 32 (u8s (secK s i).1)],fb gr 23 [.arr 32 (u8s hzero.1)]] w',?_,?_⟩
  ·(((refine Aw trivial ?_ ?_)))
   ·intro h0
    (((refine Am ?_;refine An hM ?_;refine Bl hM ?_ ?_));(focus (first|exact trivial|assumption|omega));((clear hM;intro _ hM;refine Az hM ?_;clear hM;intro _ hM)))
    have e:secK s i=drv (secK s (i - 1)) spath es0:=by
     obtain⟨k,rfl⟩:∃ k,i=k+1:=⟨i - 1,by omega⟩
     rfl
    rw[e]
    exact hM.same
   ·intro h0
    obtain rfl:i=0:=by omega
    (((refine Aj ?_)))
    exact hM
  clear hM
  intro u5 w5 hM
  (((refine An hM ?_;refine Bx hM ?_ ?_ ?_));(focus rfl);(focus (constructor <;> simp));((clear hM;intro _ _ hM;refine Co hM ?_ ?_));(focus omega);((clear hM;intro _ _ _ hM;refine An hM ?_;refine Bl hM ?_ ?_));(focus (first|exact trivial|assumption|omega));((clear hM;intro _ hM;refine Ab trivial ?_;refine Bx hM ?_ ?_ ?_));(focus rfl);(focus (constructor <;> simp));((clear hM;intro _ _ hM;refine Co hM ?_ ?_));(focus omega);((clear hM;intro _ _ _ hM;refine Ab ?_ ?_));(focus omega))
  rename_i A1 c1' _ _ _ _ A2 c2' _
  have hM:Mem H1 w1 [rowR 23 32 A1 (i+1) c1' (kfds (secL s i)++[[.arr 32 (u8s (secK s i).1)]]),rowR 128 33 A2 (i+1) c2' ((keysL way s i).map Ky.fds++[[.one (.int .i64 way[i]),.arr 32 (u8s (drv (secK s i) bnode es0).1)]]),fb gs 23 [.arr 32 (u8s (secK s i).1)],fb gr 23 [.arr 32 (u8s hzero.1)]] _:=hM.sub
  have e1:kfds (secL s i)++[[.arr 32 (u8s (secK s i).1)]]=kfds (secL s (i+1)):=by
   rw[aPq,aIo]
   rfl
  have e2:(keysL way s i).map Ky.fds++[[.one (.int .i64 way[i]),.arr 32 (u8s (drv (secK s i) bnode es0).1)]]=(keysL way s (i+1)).map Ky.fds:=by
   rw[aLa,List.map_append]
   congr 1
   simp only[List.map_cons,List.map_nil]
   unfold keyK
   rw[aUb (by rw[List.getD_eq_getElem?_getD,List.getElem?_eq_getElem hit];exact hx),List.getD_eq_getElem?_getD,List.getElem?_eq_getElem hit]
   rfl
  exact⟨⟨i+1,A1,A2,c1',c2',rfl,rfl,by rw[Value.int.injEq];refine⟨rfl,?_⟩;push_cast;rfl,by omega,by rw[← e1,← e2];exact hM⟩,by simp only;omega⟩
 ·intro hge
  obtain rfl:i=way.length:=by omega
  (((refine Aj ?_;refine An hM ?_;refine Bl hM ?_ ?_));(focus (first|exact trivial|assumption|omega));((clear hM;intro _ hM;refine Az hM ?_;clear hM;intro _ hM;refine Bz hM ?_)))
  exact⟨_,rfl,K1,c1,K2,c2,rfl,hM.sub⟩
def sideK (t:Tr) (pl:Int) (way fresh:List Int) (i:Nat):List Int:=(resT t (bs t.size (wNode pl way i))).filter fun y=>!isF fresh y
def sidesK (t:Tr) (pl:Int) (way fresh:List Int) (n:Nat):List (List Int):=(List.range n).map (sideK t pl way fresh)
theorem aIp (t:Tr) (pl:Int) (way fresh:List Int) (n:Nat):sidesK t pl way fresh (n+1)=sidesK t pl way fresh n++[sideK t pl way fresh n]:=by simp[sidesK,List.range_succ]
theorem aUm {t:Tr} (h:t.Rt) (x:Int):(resT t x).length≤16640:=by
 unfold resT
 split
 ·rename_i ht
  exact Uo h 8 x ht
 ·simp
theorem aQa (pl:Int) (fresh:List Int) (hl:fresh.length≤maxLen) (hpl:0≤pl∧pl<t.size) (hR:t.Rt) (h:TrF H v t) (hs:Sl H 1 A (ints8 (dirL t.size pl))) (hfr:Sl H 1 F (ints8 fresh)) (hf:Fz H w):
  Calls prog 151 #[v,.int .i64 pl,.slice A (dirL t.size pl).length a,.slice F fresh.length fc] w (Outp H w fun H' r=>∃ K kc qs,r=.slice K (dirL t.size pl).length kc∧Sl H' 1 K qs∧All2 (IrF H') qs (sidesK t pl (dirL t.size pl) fresh (dirL t.size pl).length)):=by
 obtain⟨TA,ta,TB,tb,tq,rfl,-⟩:=h.ex
 obtain⟨w1,hw1⟩:∃ w1,w1=w:=⟨_,rfl⟩
 rw[← hw1]
 rw[← hw1]at hf
 have hlen:=hR.len
 have hts:t.size=t.ls.length:=rfl
 have hdl:=Uf t.size pl
 have hM:=Mem.start hf
 refine aAc ?_
 unfold Oz
 (((refine Bh hM ?_;clear hM;intro _ _ hM;refine Bh hM ?_;clear hM;intro _ _ hM;refine Ab ?_ ?_));(focus omega);((refine Ab trivial ?_)))
 rename_i gt _ gf _
 have hM9:Mem H w1 [rowR 133 1 none 0 0 [],fb gt 58 (tfd TA t.ls.length ta TB t.ps.length tb),fb gf 133 [.one (.slice F fresh.length fc)]] _:=(hM.row0 133 1).sub
 refine⟨fun v1 v2 v3 w'=>∃ (i:Nat) (H2:Hp) (K1:Option Addr) (c1:Nat) (qs:List (List Fd)),v1=.slice K1 i c1∧v2=.int .i64 (wNode pl (dirL t.size pl) i)∧v3=.int .i64 i∧i≤(dirL t.size pl).length∧qs.length=i∧Le w1 H H2∧All2 (IrF H2) qs (sidesK t pl (dirL t.size pl) fresh i)∧Mem H2 w1 [rowR 133 1 K1 i c1 qs,fb gt 58 (tfd TA t.ls.length ta TB t.ps.length tb),fb gf 133 [.one (.slice F fresh.length fc)]] w',fun _ _ v _=>match v with | .int _ k=>(dirL t.size pl).length - k.toNat|_=>0,⟨0,H,none,0,[],rfl,rfl,rfl,by omega,rfl,Le.refl _ _,trivial,hM9⟩,?_⟩
 clear hM hM9
 rintro v1 v2 v3 u4 w4 ⟨i,H2,K1,c1,qs,rfl,rfl,rfl,hi,hql,le2,hA2,hM⟩
 skip
 (((refine Aw trivial ?_ ?_)))
 ·intro hlt
  have hit:i<(dirL t.size pl).length:=by omega
  obtain⟨y1,y2,y3,y4⟩:=aKv (n:=t.size) (pl:=pl) ⟨hpl.1,hpl.2,by omega⟩ hit
  have hy3:=y3
  obtain⟨z1,z2,z3⟩:=hy3
  have hs2:=hs.mono le2.le
  have hfr2:=hfr.mono le2.le
  have h2:=h.mono le2.le
  (((refine Am ?_));(refine Ci ‹_› ?_ ?_ ?_);(focus (simp only[List.length_map];omega));(focus (simp only[List.length_map];first|done|omega));((intro _ _ hA));(cases hA);(refine Cb hM ‹_› (By ?_) ?_);(focus omega);((refine Ba hM ?_;refine Ap trivial ?_;refine Ba hM ?_;refine Ap trivial ?_;refine Bs hM ?_ (fun _ _ hM=>?_)));(focus (first|exact trivial|assumption|omega)))
  refine aGm hM (fun w5 hM=>?_)
  refine Bi (aId (bs t.size (wNode pl (dirL t.size pl) i)) (by omega) hR h2 hM.fz) ?_
  rintro r w6 ⟨K,kc,rfl,hM6⟩
  have hM7:=hM.join hM6 fun _ _ e=>e
  clear hM hM6
  have hM:Mem H2 w1 (rowR 3 1 K (resT t (bs t.size (wNode pl (dirL t.size pl) i))).length kc (ints8 (resT t (bs t.size (wNode pl (dirL t.size pl) i))))::[rowR 133 1 K1 i c1 qs,fb gt 58 (tfd TA t.ls.length ta TB t.ps.length tb),fb gf 133 [.one (.slice F fresh.length fc)]]) _:=hM7
  clear hM7
  (((refine Bc hM ?_;clear hM;intro _ hM;refine Ab trivial ?_)))
  have hrl:=aUm hR (bs t.size (wNode pl (dirL t.size pl) i))
  have hM:Mem H2 w1 (fb gf 133 [.one (.slice F fresh.length fc)]::rowR 3 1 K (resT t (bs t.size (wNode pl (dirL t.size pl) i))).length kc (ints8 (resT t (bs t.size (wNode pl (dirL t.size pl) i))))::[rowR 133 1 K1 i c1 qs,fb gt 58 (tfd TA t.ls.length ta TB t.ps.length tb)]) _:=hM.sub
  refine Bi (aXg (resT t (bs t.size (wNode pl (dirL t.size pl) i))) rfl (aPz gf fresh hl hfr2) hM (by omega)) ?_
  clear hM
  rintro r w7 ⟨hr,hM⟩
  have hr:r=.slice K (sideK t pl (dirL t.size pl) fresh i).length kc:=hr
  subst hr
  have hM:Mem H2 w1 [fb gf 133 [.one (.slice F fresh.length fc)],rowR 3 1 K (sideK t pl (dirL t.size pl) fresh i).length kc (ints8 (sideK t pl (dirL t.size pl) fresh i)),rowR 133 1 K1 i c1 qs,fb gt 58 (tfd TA t.ls.length ta TB t.ps.length tb)] _:=hM
  have hM:Mem H2 w1 (rowR 3 1 K (sideK t pl (dirL t.size pl) fresh i).length kc (ints8 (sideK t pl (dirL t.size pl) fresh i))::[rowR 133 1 K1 i c1 qs,fb gt 58 (tfd TA t.ls.length ta TB t.ps.length tb),fb gf 133 [.one (.slice F fresh.length fc)]]) _:=hM.sub
  have hsl:(sideK t pl (dirL t.size pl) fresh i).length≤40000:=Nat.le_trans (List.length_filter_le _ _) (by omega)
  obtain⟨H3,l3,hM3,hs3,-⟩:=hM.fz0
  clear hM
  have hM:=hM3
  clear hM3
  (((refine Bx hM ?_ ?_ ?_));(focus rfl);(focus (constructor <;> simp));((clear hM;intro _ _ hM;refine Co hM ?_ ?_));(focus omega);((clear hM;intro _ _ _ hM;refine Ab ?_ ?_));(focus omega))
  rename_i A2 c2 _
  have hA3:=(hA2.mono fun q x k=>IrF.mono k l3.le).snoc (⟨K,kc,rfl,hs3,hsl⟩:IrF H3 [.one (.slice K (sideK t pl (dirL t.size pl) fresh i).length kc)] (sideK t pl (dirL t.size pl) fresh i))
  rw[← aIp]at hA3
  have hwn:(dirL t.size pl)[i]=wNode pl (dirL t.size pl) (i+1):=by
   show _=(dirL t.size pl).getD i 0
   rw[List.getD_eq_getElem?_getD,List.getElem?_eq_getElem hit]
   rfl
  rw[hwn]
  exact⟨⟨i+1,H3,A2,c2,_,rfl,rfl,by rw[Value.int.injEq];refine⟨rfl,?_⟩;push_cast;rfl,by omega,by rw[List.length_append,hql];rfl,le2.trans l3,hA3,hM.sub⟩,by simp only;omega⟩
 ·intro hge
  obtain rfl:i=(dirL t.size pl).length:=by omega
  (((refine Aj ?_)))
  have hM9:Mem H2 w1 (rowR 133 1 K1 (dirL t.size pl).length c1 qs::[]) _:=hM.sub
  obtain⟨H3,l3,hM3,hs3,-⟩:=hM9.fz0
  exact hM3.out (le2.trans l3) ⟨K1,c1,qs,rfl,hs3,hA2.mono fun q x k=>IrF.mono k l3.le⟩
end
end Go.Proofs.YtgbenhmdamnmcaaGreat
namespace Go.Proofs.YtgbenhmdamnmcaaGreat
open Go.Proofs.Tryz
open Go.RowKit Go.Lib
def rowK (k:H32) (n:Nat):List Int:=rowL (drv k sstream es0).1 n
def tagK (k:H32) (about b:List Int):List Int:=((drv (drv k stag es0) (strOfNums about) (strOfNums b)).1).take 16
theorem aBj (k:H32) (n:Nat):(rowK k n).length=n:=aHw _ _
theorem aIq (k:H32) (a b:List Int):(tagK k a b).length=16:=by
 unfold tagK
 rw[List.length_take,(drv _ _ _).2.1]
 rfl
theorem aBk:∀ {r t:List Int} {i:Nat} (h1:i<(crossL r t).length) (h2:i<t.length) (h3:i<r.length),(crossL r t)[i]=bits .xor .u8 t[i] r[i]
 | _::_,_::_,0,_,_,_=>rfl
 | _::rs,_::ts,i+1,h1,h2,h3=>by
   simp only[crossL,List.getElem_cons_succ]
   exact aBk (by simpa [crossL] using h1) _ _
 | [],_,_,_,_,h3=>by simp at h3
 | _::_,[],_,_,h2,_=>by simp at h2
theorem aUn (l:List Int) (i:Nat) (x:Int):(byts l).set i [.one (.int .u8 x)]=byts (l.set i x):=(List.map_set (f:=fun x=>[Fd.one (.int .u8 x)])).symm
theorem aQb {C t:List Int} {i:Nat} (hl:C.length=t.length) (hi:i<t.length):(C.take i++t.drop i).set i (C[i]'(by omega))=C.take (i+1)++t.drop (i+1):=by
 have ht:(C.take i).length=i:=by rw[List.length_take];omega
 rw[List.drop_eq_getElem_cons hi,List.set_append_right _ _ (by omega),ht,Nat.sub_self,List.set_cons_zero,List.take_succ_eq_append_getElem (by omega),List.append_assoc]
 rfl
theorem aQc {C t:List Int} {i:Nat} (hl:C.length=t.length) (hi:i<t.length):(C.take i++t.drop i)[i]'(by rw[List.length_append,List.length_take,List.length_drop];omega)=t[i]:=by
 rw[List.getElem_append_right (by rw[List.length_take];omega)]
 simp only[List.length_take,List.getElem_drop]
 congr 1
 omega
instance:BytC prog 89 5:=⟨⟨by kernel_rfl,by kernel_rfl⟩⟩
instance (p:H32) (o:List Int):PurC prog 168 [.agg (u8s p.1).toArray,.string (strOfNums o)] ((∀ x∈o,0≤x∧x<256)∧o.length≤1000000) (.agg (u8s (kemH p o).1).toArray):=⟨fun h w=>aPn p o h.1 h.2 w⟩
section
variable {H:Hp} {w0 w:World} {L R:List Res} {A B:Option Addr} {a b n m:Nat}
instance (k:H32) (n:Int):PurC prog 200 [.agg (u8s k.1).toArray,.int .i64 n] True (.string (if 1≤n∧n≤65536 then strOfNums (rowL k.1 n.toNat) else ByteArray.mk #[])):=⟨fun _ w=>aPb k n (Fz.of w)⟩
theorem aUo (k:H32) (t:List Int) (ht:∀ x∈t,0≤x∧x<256) (hn:t.length≤65536) (w:World):Calls prog 163 #[ha k,.string (strOfNums t)] w fun en w'=>en=.returned (.string (strOfNums (crossL (rowK k t.length) t)))∧St w [] w':=by
 have hM:=Mem.start (Fz.of w)
 have hs:(strOfNums t).size=t.length:=strOfNums_size t
 have d1:sstream.size≤1000000∧es0.size≤1000000:=by decide
 refine aEr ?_
 unfold Tw
 (((refine Bh hM ?_;clear hM;intro _ _ hM;refine An hM ?_;refine Bl hM ?_ ?_));(focus (first|exact trivial|assumption|omega));((clear hM;intro _ hM;refine Ab trivial ?_;refine Bl hM ?_ ?_));(focus (first|exact trivial|assumption|omega));((clear hM;intro _ hM;refine Ab trivial ?_)))
 rw[hs]
 refine bAi hM (by omega) ?_
 intro g w1 hM
 refine bAj hM hs ?_
 intro w2 hM
 rw[Ce t ht]at hM
 have hrl:(rowK k t.length).length=t.length:=aBj _ _
 have hrw:(if 1≤(t.length:Int)∧(t.length:Int)≤65536 then strOfNums (rowL (drv k sstream es0).1 ((t.length:Int)).toNat) else ByteArray.mk #[])=strOfNums (rowK k t.length):=by
  by_cases h0:t.length=0
  ·rw[if_neg (by omega),h0]
   rfl
  ·rw[if_pos (by omega),Int.toNat_natCast]
   rfl
 rw[hrw]
 have hrr:∀ x∈rowK k t.length,0≤x∧x<256:=aKr _ _
 generalize rowK k t.length=row at hrl hrr ⊢
 have hcl:(crossL row t).length=t.length:=Nr (by omega)
 (((refine Ab trivial ?_)))
 refine⟨fun v w'=>∃ i:Nat,v=.int .i64 i∧i≤t.length∧Mem (Hp.of w) w [rowR 5 1 (some ⟨g,0,none⟩) t.length t.length (byts ((crossL row t).take i++t.drop i))] w',fun v _=>match v with | .int _ k=>t.length - k.toNat|_=>0,⟨0,rfl,by omega,by simpa using hM.sub⟩,?_⟩
 clear hM
 rintro v u w3 ⟨i,rfl,hi,hM⟩
 skip
 (((refine Aw trivial ?_ ?_)))
 ·intro hlt
  have hit:i<t.length:=by omega
  have hq:(byts ((crossL row t).take i++t.drop i))[((i:Int)).toNat]?=some [.one (.int .u8 t[i])]:=by
   have h9:=aQc hcl hit
   rw[Int.toNat_natCast]
   unfold byts
   rw[List.getElem?_map,List.getElem?_eq_getElem (by rw[List.length_append,List.length_take,List.length_drop];omega),h9]
   rfl
  have hrs:(strOfNums row).size=t.length:=by rw[strOfNums_size,hrl]
  (((refine Am ?_;refine Cj hM ?_ ?_));(focus omega);((intro _ hA));(cases hA))
  refine Cv hM hq ?_
  skip
  refine Og (aHj _ i (by omega) (by rw[hrs];omega)) ?_
  have hri:(ints (strOfNums row)).getD ((i:Int)).toNat 0=row[i]:=by
   rw[Ce row hrr,Int.toNat_natCast,List.getD_eq_getElem?_getD,List.getElem?_eq_getElem (by omega)]
   rfl
  rw[hri]
  have hxr:bits .xor .u8 t[i] row[i]=(crossL row t)[i]:=(aBk (by omega) hit (by omega)).symm
  (((refine Ap trivial ?_;refine Cj hM ?_ ?_));(focus omega);((intro _ hA));(cases hA))
  rw[hxr]
  refine bAl hM hq (fun w' hM=>?_)
  rw[aUn,Int.toNat_natCast,aQb hcl hit]at hM
  (((refine Bc hM ?_;clear hM;intro _ hM;refine Ab ?_ ?_));(focus omega))
  exact⟨⟨i+1,by rw[Value.int.injEq];refine⟨rfl,?_⟩;push_cast;rfl,by omega,hM⟩,by simp only;omega⟩
 ·intro hge
  obtain rfl:i=t.length:=by omega
  (((refine Aj ?_;refine Rk hM ?_ ?_));(focus (simp;omega)))
  refine⟨?_,hM.st⟩
  rw[← hcl,List.take_length,hcl,List.drop_length,List.append_nil,← hcl,List.take_length]
theorem bAp (k:H32) (ab b:List Int) (hl:ab.length≤1000000) (hb:b.length≤1000000) (w:World):Calls prog 164 #[ha k,.string (strOfNums ab),.string (strOfNums b)] w fun en w'=>en=.returned (.string (strOfNums (tagK k ab b)))∧St w [] w':=by
 have hM:=Mem.start (Fz.of w)
 have h1:(strOfNums ab).size=ab.length:=strOfNums_size _
 have h2:(strOfNums b).size=b.length:=strOfNums_size _
 have d1:stag.size≤1000000∧es0.size≤1000000:=by decide
 have d2:(strOfNums ab).size≤1000000∧(strOfNums b).size≤1000000:=by omega
 refine aJr ?_
 unfold aAg
 (((refine Bh hM ?_;clear hM;intro _ _ hM;refine An hM ?_;refine Bl hM ?_ ?_));(focus (first|exact trivial|assumption|omega));((clear hM;intro _ hM;refine Bl hM ?_ ?_));(focus (first|exact trivial|assumption|omega));((clear hM;intro _ hM;refine Bf hM ?_;clear hM;intro _ _ hM;refine Az hM ?_;clear hM;intro _ hM;refine Ab ?_ ?_));(focus omega))
 refine bAk (n:=32) hM (by decide) ?_
 exact⟨rfl,hM.st⟩
instance (k:H32) (t:List Int):PurC prog 163 [.agg (u8s k.1).toArray,.string (strOfNums t)] ((∀ x∈t,0≤x∧x<256)∧t.length≤65536) (.string (strOfNums (crossL (rowK k t.length) t))):=⟨fun h w=>aUo k t h.1 h.2 w⟩
instance (k:H32) (ab b:List Int):PurC prog 164 [.agg (u8s k.1).toArray,.string (strOfNums ab),.string (strOfNums b)] (ab.length≤1000000∧b.length≤1000000) (.string (strOfNums (tagK k ab b))):=⟨fun h w=>bAp k ab b h.1 h.2 w⟩
theorem aLh {ps:List (List Fd)} (hs:Sl (Hp.of w) 32 A ps) (hn:n=ps.length) (hb:n≤100000) (hM:Mem H w0 L w):Calls prog 162 #[.slice A n a] w fun en w'=>∃ v,en=.returned v∧Ext w w'∧∃ A' a',v=.slice A' n a'∧Mem H w0 (rowR 23 32 A' n a' ps::L) w':=by
 refine Hb ?_
 unfold Eg
 refine Mr (P:=prog) (t:=137) (R:=fun en w'=>∃ v,en=.returned v∧Ext w w'∧∃ A' a',v=.slice A' n a'∧Mem H w0 (rowR 23 32 A' n a' ps::L) w') hs hn hM ?_ (fun A' a' w' hx hM=>⟨_,rfl,hx,_,_,rfl,hM⟩)
 omega
theorem aNf {ps:List (List Fd)} (k:H32) (ab t:List Int) (hl:ab.length≤1000000) (ht:∀ x∈t,0≤x∧x<256) (hn:t.length≤65536) (hs:Sl H 32 A ps) (hnp:n=ps.length) (hb:n≤1000) (hf:Fz H w):Calls prog 88 #[.pointer none,ha k,.string (strOfNums ab),.string (strOfNums t),.slice A n a] w fun en w'=>en=.returned (.string (strOfNums (sealL rowK tagK k ab t)))∧St w [] w':=by
 have hM:=Mem.start hf
 have h1:(strOfNums t).size=t.length:=strOfNums_size _
 have d1:(∀ x∈t,0≤x∧x<256)∧t.length≤65536:=⟨ht,hn⟩
 refine aGv ?_
 unfold Wy
 (((refine Bh hM ?_;clear hM;intro _ _ hM;refine Ab trivial ?_;refine Bm trivial ?_ ?_));(focus (first|assumption|omega|with_reducible rfl|exact fun h=>Bool.noConfusion h));((refine Aj ?_)))
 refine⟨fun w'=>hM.now w',?_,?_⟩
 ·(((refine Ab trivial ?_)))
  (((refine Aw trivial ?_ ?_)))
  ·intro h0
   (((refine Am ?_)))
   refine⟨?_,?_⟩
   all_goals
    (first|(((refine Ba hM ?_;refine Cf hM ?_ ?_ (fun _ _ hM2=>?_)));(focus rfl);(focus (constructor <;> simp));((replace hM:=hM2;clear hM2)))|(((refine Ba hM ?_))))
    refine Nd hM (fun w hM=>aLh (hs.mono (Kw hM.fz)) hnp (by omega) hM) ?_
    rintro v w2 hx ⟨A',a',rfl,hM⟩
    (first|(((refine Cf hM ?_ ?_ ?_));(focus rfl);(focus (constructor <;> simp));((clear hM;intro _ _ hM;refine Ap trivial ?_;refine Bs hM ?_ (fun _ _ hM=>?_)));(focus (first|exact trivial|assumption|omega));((refine Bc hM ?_;clear hM;intro _ hM)))|(((refine Ap trivial ?_;refine Bs hM ?_ (fun _ _ hM=>?_)));(focus (first|exact trivial|assumption|omega));((refine Bc hM ?_;clear hM;intro _ hM))))
    exact hM.sub
  ·intro h0
   (((refine Aj ?_)))
   exact hM
 rintro u w2 hM
 have hcl:(crossL (rowK k t.length) t).length=t.length:=Nr (by rw[aBj];omega)
 have d2:ab.length≤1000000∧(crossL (rowK k t.length) t).length≤1000000:=by omega
 (((refine An hM ?_;refine Bl hM ?_ ?_));(focus (first|exact trivial|assumption|omega));((clear hM;intro _ hM;refine An hM ?_;refine Bl hM ?_ ?_));(focus (first|exact trivial|assumption|omega));((clear hM;intro _ hM)))
 refine aMd _ _ (by rw[aIq];omega) ?_
 exact⟨rfl,hM.st⟩
theorem aDs (k:H32) (ab t:List Int):(sealL rowK tagK k ab t).length=t.length+16:=by
 unfold sealL
 rw[List.length_append,Nr (by rw[aBj];omega),aIq]
theorem aXh {ps:List (List Fd)} (pub once:H32) (ab t:List Int) (hl:ab.length≤1000000) (ht:∀ x∈t,0≤x∧x<256) (hn:t.length≤65536) (hs:Sl H 32 A ps) (hnp:n=ps.length) (hb:n≤1000) (hf:Fz H w):Calls prog 93 #[.pointer none,ha pub,ha once,.string (strOfNums ab),.string (strOfNums t),.slice A n a] w fun en w'=>en=.returned (.string (strOfNums (wrapL rowK tagK kemH pub once ab t)))∧St w [] w':=by
 have hM:=Mem.start hf
 have h1:(strOfNums t).size=t.length:=strOfNums_size _
 refine aGw ?_
 have d1:(∀ x∈once.1,0≤x∧x<256)∧once.1.length≤1000000:=⟨once.2.2,by rw[once.2.1];omega⟩
 unfold Wz
 (((refine Bh hM ?_;clear hM;intro _ _ hM;refine Bh hM ?_;clear hM;intro _ _ hM;refine Ab trivial ?_;refine Bm trivial ?_ ?_));(focus (first|assumption|omega|with_reducible rfl|exact fun h=>Bool.noConfusion h));((refine Aj ?_)))
 rename_i g1 _ g2 _
 refine⟨fun x w'=>∃ g3:Nat,x=.pointer (some ⟨g3,0,none⟩)∧Mem H w [fb g3 23 [.arr 32 (u8s (kemH pub once.1).1)],fb g2 23 [.arr 32 (u8s once.1)],fb g1 23 [.arr 32 (u8s pub.1)]] w',?_,?_⟩
 ·repeat' apply And.intro
  all_goals
   (first|(((refine Ba hM ?_;refine Ap trivial ?_;refine Cw hM ?_;refine Bs hM ?_ (fun _ _ hM=>?_)));(focus (first|exact trivial|assumption|omega));((refine Cd hM ?_;clear hM;intro _ _ hM;refine Ca hM ?_;clear hM;intro _ hM;refine Bc hM ?_;clear hM;intro _ hM)))|(((refine Ba hM ?_;refine Ap trivial ?_;refine Cw hM ?_;refine Cd hM ?_;clear hM;intro _ _ hM;refine Bs hM ?_ (fun _ _ hM=>?_)));(focus (first|exact trivial|assumption|omega));((refine Ca hM ?_;clear hM;intro _ hM;refine Bc hM ?_;clear hM;intro _ hM))))
   exact⟨_,rfl,hM.sub⟩
 clear hM
 rintro v u w2 ⟨g3,rfl,hM⟩
 refine⟨fun w'=>hM.now w',?_,?_⟩
 ·repeat' apply And.intro
  all_goals
   (first|(((refine Ba hM ?_;refine Ba hM ?_;refine Bs hM ?_ (fun _ _ hM=>?_)));(focus (first|exact trivial|assumption|omega));((refine Cf hM ?_ ?_ ?_));(focus rfl);(focus (constructor <;> simp));((clear hM;intro _ _ hM;refine Cf hM ?_ ?_ ?_));(focus rfl);(focus (constructor <;> simp));((clear hM;intro _ _ hM;refine Ap trivial ?_;refine Bs hM ?_ (fun _ _ hM=>?_)));(focus (first|exact trivial|assumption|omega));((refine Bc hM ?_;clear hM;intro _ hM)))|(((refine Ba hM ?_;refine Ba hM ?_;refine Cf hM ?_ ?_ (fun _ _ hM2=>?_)));(focus rfl);(focus (constructor <;> simp));((replace hM:=hM2;clear hM2;refine Bs hM ?_ (fun _ _ hM=>?_)));(focus (first|exact trivial|assumption|omega));((refine Cf hM ?_ ?_ ?_));(focus rfl);(focus (constructor <;> simp));((clear hM;intro _ _ hM;refine Ap trivial ?_;refine Bs hM ?_ (fun _ _ hM=>?_)));(focus (first|exact trivial|assumption|omega));((refine Bc hM ?_;clear hM;intro _ hM))))
   exact hM.sub
 rintro u w3 hM
 (((refine An hM ?_;refine Bx hM ?_ ?_ ?_));(focus rfl);(focus (constructor <;> simp));((clear hM;intro _ _ hM;refine An hM ?_;refine Bx hM ?_ ?_ ?_));(focus rfl);(focus (constructor <;> simp));((clear hM;intro _ _ hM;refine Ab trivial ?_;refine Bl hM ?_ ?_));(focus (first|exact trivial|assumption|omega));((clear hM;intro _ hM;refine Ap trivial ?_;refine Cw hM ?_;refine Ba hM ?_)))
 refine Cg hM (fun w hM=>aNf (kemH pub once.1) ab t hl ht hn hs hnp hb hM.fz) (fun w5 _ hM=>?_)
 refine aKe _ _ (by rw[aDs,once.2.1];omega) ?_
 (((refine Bc hM ?_;clear hM;intro _ hM)))
 exact⟨rfl,hM.st⟩
end
end Go.Proofs.YtgbenhmdamnmcaaGreat
namespace Go.Proofs.YtgbenhmdamnmcaaGreat
open Go.Proofs.Tryz
open Go.RowKit Go.Lib
structure Rg where
 pub:H32
 wraps:List (List Int)
abbrev Rg.row (r:Rg) (C:Option Addr) (c:Nat):List Fd:=[.arr 32 (u8s r.pub.1),.one (.slice C r.wraps.length c)]
abbrev strs (l:List (List Int)):List (List Fd):=l.map fun s=>[Fd.one (.string (strOfNums s))]
def RgF (H:Hp) (q:List Fd) (r:Rg):Prop:=∃ C c,q=r.row C c∧Sl H 1 C (strs r.wraps)∧r.wraps.length≤100000
theorem RgF.mono {H H':Hp} {q:List Fd} {r:Rg} (h:RgF H q r) (k:H.le H'):RgF H' q r:=by
 obtain⟨C,c,h1,h2,h3⟩:=h
 exact⟨C,c,h1,h2.mono k,h3⟩
structure Gw where
 tree:Tr
 rungs:List Rg
 secs:List H32
 keys:List Ky
 com:H32
def Gw.none:Gw:=⟨Tr.none,[],[],[],hzero⟩
abbrev gfd (A:Option Addr) (n a:Nat) (B:Option Addr) (m b:Nat) (R:Option Addr) (rn ra:Nat) (S:Option Addr) (sn sa:Nat) (K:Option Addr) (kn ka:Nat) (com:H32):List Fd:=
 [.one (.slice A n a),.one (.slice B m b),.one (.slice R rn ra),.one (.slice S sn sa),.one (.slice K kn ka),.arr 32 (u8s com.1)]
def GwF (H:Hp) (v:Value) (g:Gw):Prop:=∃ A a B b R ra S sa K ka qs,v=.agg (fl (gfd A g.tree.ls.length a B g.tree.ps.length b R g.rungs.length ra S g.secs.length sa K g.keys.length ka g.com)).toArray ∧
 TrF H (tv A g.tree.ls.length a B g.tree.ps.length b) g.tree∧Sl H 33 R qs∧All2 (RgF H) qs g.rungs∧Sl H 32 S (kfds g.secs)∧Sl H 33 K (g.keys.map Ky.fds)
theorem GwF.mono {H H':Hp} {v:Value} {g:Gw} (h:GwF H v g) (k:H.le H'):GwF H' v g:=by
 obtain⟨A,a,B,b,R,ra,S,sa,K,ka,qs,h1,h2,h3,h4,h5,h6⟩:=h
 exact⟨A,a,B,b,R,ra,S,sa,K,ka,qs,h1,h2.mono k,h3.mono k,h4.mono fun _ _ x=>RgF.mono x k,h5.mono k,h6.mono k⟩
theorem TrF.none (H:Hp):TrF H (tv .none 0 0 .none 0 0) Tr.none:=⟨⟨.none,0,.none,0,[],rfl,Sl.nil _ _ _,Sl.nil _ _ _,trivial⟩,by decide,by decide⟩
theorem GwF.none (H:Hp):GwF H (.agg (fl (gfd .none 0 0 .none 0 0 .none 0 0 .none 0 0 .none 0 0 hzero)).toArray) Gw.none:=⟨.none,0,.none,0,.none,0,.none,0,.none,0,[],rfl,TrF.none H,Sl.nil _ _ _,trivial,Sl.nil _ _ _,Sl.nil _ _ _⟩
abbrev sleafK:ByteArray:=ByteArray.mk #[108,101,97,102]
def leafS (once:H32):H32:=drv once sleafK es0
def pubK (s:H32) (k:Nat):H32:=pubH (drv (secK s k) bnode es0)
def pubsL (s:H32) (n:Nat):List H32:=(List.range n).map (pubK s)
theorem aLi (s:H32) (n:Nat):pubsL s (n+1)=pubsL s n++[pubK s n]:=by simp[pubsL,List.range_succ]
def wrapT (t:Tr) (once:H32) (about:List Int) (s:H32) (i j:Nat) (x:Int):List Int:=wrapL rowK tagK kemH (pubAt t x).1 (drv once swrap (strOfNums (numB i++numB j))) about s.1
def wrapsT (t:Tr) (once:H32) (about:List Int) (s:H32) (i:Nat) (side:List Int) (n:Nat):List (List Int):=(List.range n).map fun j=>wrapT t once about s i j (side.getD j 0)
theorem aIr (t:Tr) (once:H32) (about:List Int) (s:H32) (i:Nat) (side:List Int) (n:Nat):wrapsT t once about s i side (n+1)=wrapsT t once about s i side n++[wrapT t once about s i n (side.getD n 0)]:=by simp[wrapsT,List.range_succ]
theorem aBl (t:Tr) (once:H32) (about:List Int) (s:H32) (i:Nat) (side:List Int) (n:Nat):(wrapsT t once about s i side n).length=n:=by simp[wrapsT]
def rungK (t:Tr) (once:H32) (about:List Int) (s:H32) (side:List Int) (i:Nat):Rg:=⟨pubK s (i+1),wrapsT t once about (secK s (i+1)) i side side.length⟩
def rungsK (t:Tr) (pl:Int) (way fresh:List Int) (once:H32) (about:List Int) (s:H32) (n:Nat):List Rg:=(List.range n).map fun i=>rungK t once about s (sideK t pl way fresh i) i
theorem aIs (t:Tr) (pl:Int) (way fresh:List Int) (once:H32) (about:List Int) (s:H32) (n:Nat):rungsK t pl way fresh once about s (n+1)=rungsK t pl way fresh once about s n++[rungK t once about s (sideK t pl way fresh n) n]:=by simp[rungsK,List.range_succ]
theorem aLj (t:Tr) (pl:Int) (way fresh:List Int) (once:H32) (about:List Int) (s:H32) (n:Nat):(rungsK t pl way fresh once about s n).length=n:=by simp[rungsK]
def growG (t:Tr) (pl:Int) (once:H32) (about:List Int) (fresh:List Int):Gw:=
 let way:=dirL t.size pl
 let s:=leafS once
 ⟨(t.pathP pl (pubK s 0) ((pubsL s (way.length+1)).drop 1)).1,rungsK t pl way fresh once about s way.length,(secL s (way.length+1)).drop 1,sortedK (keysL (2*pl::way) s (way.length+1)),comS s (way.length+1)⟩
def growT (t:Tr) (pl:Int) (once:H32) (about:List Int) (fresh:List Int):Gw × Int:=
 if ¬t.right=true then (Gw.none,1) else if t.nobody pl then (Gw.none,7) else if 65536<about.length then (Gw.none,5) else (growG t pl once about fresh,0)
theorem aBm {t:Tr} (h:t.Rt):∀ (f:Nat) (x:Int),thr t.size x→∀ y∈resL f t x,thr t.size y
 | 0,x,ht,y,hy=>by
   unfold resL at hy
   split at hy
   ·rw[List.mem_singleton.1 hy]
    exact ht
   ·cases hy
 | f+1,x,ht,y,hy=>by
   unfold resL at hy
   by_cases he:x%2=0
   ·rw[if_pos he]at hy
    split at hy
    ·rw[List.mem_singleton.1 hy]
     exact ht
    ·cases hy
   ·rw[if_neg he]at hy
    have hlen:=h.len
    have hts:t.size=t.ls.length:=rfl
    obtain⟨k1,k2,k3⟩:=id ht
    have hix:(x / 2).toNat<t.ps.length:=by omega
    obtain⟨-,hd,-⟩:=h.parts.2 _ hix
    by_cases hs:(parAt t (x / 2)).set=true
    ·rw[if_pos hs]at hy
     rcases List.mem_cons.1 hy with rfl|hy
     ·exact ht
     ·obtain⟨p,hp,rfl⟩:=List.mem_map.1 hy
      rw[aDo hix]at hp
      obtain⟨a1,a2,-⟩:=Ul (hd p hp).1
      exact⟨k1,by omega,by omega⟩
    ·rw[if_neg hs]at hy
     obtain⟨⟨t1,t2⟩,-⟩:=aBa ht (by omega)
     rcases List.mem_append.1 hy with hy|hy
     ·exact aBm h f _ t1 y hy
     ·exact aBm h f _ t2 y hy
theorem aQd {t:Tr} (h:t.Rt) {pl:Int} {way fresh:List Int} {i:Nat}:∀ y∈sideK t pl way fresh i,thr t.size y:=fun y hy=>by
 have hy:=(List.mem_filter.1 hy).1
 unfold resT at hy
 split at hy
 ·rename_i ht
  exact aBm h 8 _ ht y hy
 ·cases hy
theorem aXi {n pl:Int} (h:0≤pl∧pl<n∧n≤64) {m:Nat} (hm:m<(dirL n pl).length):0≤(dirL n pl)[m]∧(dirL n pl)[m]≤126:=by
 have hd:dirL n pl=dirF 8 n (2*pl):=if_pos ⟨h.1,h.2.1⟩
 have h1:=aBc (n:=n) 8 (2*pl) m (by rw[← hd];exact hm)
 have e:(dirL n pl)[m]=(dirF 8 n (2*pl))[m]'(by rw[← hd];exact hm):=by simp only[hd]
 rw[e]
 refine⟨h1.2,?_⟩
 have h2:=h1.1
 have h3:=h1.2
 rw[h2]at h3 ⊢
 have ht:=aFg (aKt (Int.not_lt.2 h3)) (Int.not_lt.2 h3)
 obtain⟨k1,k2,k3⟩:=ht
 omega
section
variable {H:Hp} {w0 w:World} {L R:List Res} {A B K F:Option Addr} {a b c n m kc fc:Nat} {t:Tr} {v:Value}
theorem aQe (p:Int) (h:TrF H v t) (hf:Fz H w):Calls prog 149 #[v,.int .i64 p] w fun en w'=>en=.returned (.bool (decide (t.nobody p)))∧St w [] w':=by
 obtain⟨A,a,B,b,q,rfl,h1,-⟩:=h.ex
 have hM:=Mem.start hf
 have hl':t.ls.length≤9223372036854775807:=h.len.1
 refine aCa ?_
 unfold Qv
 (((refine Bh hM ?_;clear hM;intro _ _ hM)))
 (((refine Aw trivial ?_ ?_)))
 ·intro h0
  ((((iterate 5 refine Av ?_);refine Ab trivial ?_;(iterate 7 refine Av ?_);refine Ab trivial ?_)))
  exact⟨by rw[decide_eq_true (show t.nobody p from .inl (.inl h0))],hM.st⟩
 ·intro h0
  (((refine Ae ?_;refine Ab trivial ?_;refine Ae ?_;refine Ab trivial ?_;refine Ae ?_;refine An hM ?_;refine Ae ?_;refine Ab trivial ?_;refine Ae ?_)))
  (((refine Aw trivial ?_ ?_)))
  ·intro h2
   (((refine Ab trivial ?_;(iterate 7 refine Av ?_);refine Ab trivial ?_)))
   exact⟨by rw[decide_eq_true (show t.nobody p from .inl (.inr h2))],hM.st⟩
  ·intro h2
   have h3:p.toNat<t.ls.length:=by omega
   have h4:=Qe (ls:=t.ls) (p:=p) (by omega) h3
   (((refine Ab trivial ?_;refine Ae ?_;refine Ab trivial ?_;refine Ae ?_;refine An hM ?_;refine Ae ?_;refine Ab trivial ?_;refine Ae ?_));(refine Ci ‹_› ?_ ?_ ?_);(focus (simp only[List.length_map];omega));(focus (simp only[List.length_map];first|done|omega));((intro _ _ hA));(cases hA);((refine Ae ?_;refine Ab trivial ?_;refine Ae ?_));(refine Ip hM ‹_› (Ct ?_) ?_);(focus omega);((refine Ae ?_)))
   rw[← h4]
   (((refine Aw trivial ?_ ?_)))
   ·intro h5
    (((refine Ab trivial ?_)))
    exact⟨by rw[decide_eq_true (show t.nobody p from .inr h5)],hM.st⟩
   ·intro h5
    (((refine Ab trivial ?_)))
    exact⟨by rw[decide_eq_false (show ¬t.nobody p from fun k=>k.elim (fun k=>k.elim h0 h2) h5)],hM.st⟩
theorem aXj {P:Program} {n cap sz t:Nat} {ps:List (List Fd)} {kk:IntKind} {ll:Int} (a:Sl H sz A ps) [c:SliS P t sz] (hn:n=ps.length) (hl:0≤ll∧ll≤n) (hcap:n≤cap):∃ B,Sl H sz B (ps.drop ll.toNat)∧Pur P (Ax t (.slice A n cap) (some (.int kk ll)) none none) (.slice B (n - ll.toNat) (cap - ll.toNat)):=by
 have h5:=fun w=>run_slice_l (P:=P) w t A n cap c.ok.1 kk ll hl.1 hl.2
 have h6:∀ w,(sizeOf (P.elem t)).run P w=.ok sz w:=Ch c.ok.2
 cases A with
 | none=>
   have hp:ps=[]:=by
    rcases a.at_ with h|⟨b,o,c,h,_⟩
    ·exact h
    ·cases h
   subst hp
   refine⟨none,by rw[List.drop_nil];exact Sl.nil _ _ _,fun w=>?_⟩
   simp only[Ax,sv,Sem.run_bind,run_sliceAt_slice w t _ _ _ _ c.ok.1,h5,h6,Result.andThen_ok,sliced]
   simp
 | some a0=>
   by_cases hc:cap=ll.toNat
   ·refine⟨some a0,by rw[List.drop_eq_nil_of_le (by omega)];exact Sl.nil _ _ _,fun w=>?_⟩
    simp only[Ax,sv,Sem.run_bind,run_sliceAt_slice w t _ _ _ _ c.ok.1,h5,h6,Result.andThen_ok,sliced,if_pos hc]
    simp
   ·by_cases hp:ps=[]
    ·subst hp
     refine⟨some (a0.add (ll.toNat*sz)),by rw[List.drop_nil];exact Sl.nil _ _ _,fun w=>?_⟩
     simp only[Ax,sv,Sem.run_bind,run_sliceAt_slice w t _ _ _ _ c.ok.1,h5,h6,Result.andThen_ok,sliced,if_neg hc,Option.map_some]
     simp
    ·obtain⟨b,o,hA⟩:=a.some_ (List.length_pos_iff.2 hp)
     cases hA
     refine⟨some ⟨b,o+ll.toNat*sz,none⟩,a.drop_ (by omega),fun w=>?_⟩
     simp only[Ax,sv,Sem.run_bind,run_sliceAt_slice w t _ _ _ _ c.ok.1,h5,h6,Result.andThen_ok,sliced,if_neg hc,Option.map_some,Addr.add_lit]
     simp
theorem aLk {P:Program} {n cap sz:Nat} {t:TypeId} {ps:List (List Fd)} {Kq:Value→Prop} {kk:IntKind} {ll:Int} (a:Sl H sz A ps) [cc:SliS P t sz] (hn:n=ps.length) (hl:0≤ll∧ll≤n) (hcap:n≤cap) (hk:∀ B,Sl H sz B (ps.drop ll.toNat)→Kq (.slice B (n - ll.toNat) (cap - ll.toNat))):dp P (Ax t (.slice A n cap) (some (.int kk ll)) none none) Kq:=by
 obtain⟨B,h1,h2⟩:=aXj (P:=P) (t:=t) (kk:=kk) a hn hl hcap
 exact Og h2 (hk B h1)
theorem dfz {P:Program} {s:Sem Next} {ext:Bool} {Q:Hp} {Kt:Value→World→Prop} (h:Mem H w0 L w) (hk:∀ w1,Mem H w0 L w1→mop P s w1 (fun v w'=>Fz Q w'∧Kt v w') (fun _ _=>False)):dfS P (Rl.fz Q) w s ext Kt:=
 ⟨fun w1 hd=>Fc (hk w1 (h.drawn hd)) (fun _ _ x=>⟨fun _ _=>x.1,x.2⟩) fun _ _ h=>h⟩
end
end Go.Proofs.YtgbenhmdamnmcaaGreat
namespace Go.Proofs.YtgbenhmdamnmcaaGreat.Cmt
open Go.Proofs.Tryz
open Go.RowKit Go.Proofs.YtgbenhmdamnmcaaGreat.Chg
section
variable {H K:Hp} {w0 w:World} {L R:List Res} {g:Nat} {s:RdS} {most:Int}
theorem aQf (h:0≤most∧most≤65536) (hM:Mem H w0 (rrO g s::L) w):Calls prog 59 #[.pointer (some ⟨g,0,none⟩),.int .i64 most] w fun en w'=>en=.returned (.string (strOfNums (txS most s).1))∧Mem H w0 (rrO g (txS most s).2::L) w':=by
 refine Ma ?_
 unfold Gj
 refine⟨fun x w'=>x=.int .i64 most∧hM.now w',?_,?_⟩
 ·(((refine Bm trivial ?_ ?_));(focus (first|assumption|omega|with_reducible rfl|exact fun h=>Bool.noConfusion h));((refine Aj ?_)))
  exact⟨rfl,hM⟩
 rintro x u w1 ⟨rfl,hM2⟩
 have hM:Mem H w0 (rrO g s::L) w1:=hM2
 clear hM2
 have hr:=Fo (s:=s) h.1
 (((refine Bu hM ?_ ?_));(focus (first|exact trivial|assumption|omega));((clear hM;intro _ hM;refine Ab trivial ?_;refine Ab trivial ?_;refine An hM ?_)))
 by_cases he:(nmS most s).2.e=0
 ·(((refine Bm trivial ?_ ?_));(focus (first|assumption|omega|with_reducible rfl|exact fun h=>Bool.noConfusion h));((refine Aj ?_;refine Bu hM ?_ ?_));(focus (first|exact trivial|assumption|omega));((clear hM;intro _ hM)))
  exact⟨rfl,hM⟩
 ·(((refine Bt trivial ?_ ?_));(focus (first|assumption|omega|with_reducible rfl|exact fun h=>Bool.noConfusion h));((refine Am ?_)))
  unfold txS
  rw[aSw he]
  exact⟨rfl,hM⟩
instance (g:Nat) (s:RdS) (most:Int):OwnC prog 59 [.pointer (some ⟨g,0,none⟩),.int .i64 most] (rrO g s) (0≤most∧most≤65536) (rrO g (txS most s).2) (.string (strOfNums (txS most s).1)):=⟨fun h _ _ _ _ hM=>aQf h hM⟩
theorem aQg (h:most=1024∨most=65536) (hM:Mem H w0 (rdO g s::L) w):Calls prog 50 #[.pointer (some ⟨g,0,none⟩),.int .i64 most] w fun en w'=>en=.returned (.string (strOfNums (txS most s).1))∧Mem H w0 (rdO g (txS most s).2::L) w':=by
 refine Ro ?_
 unfold Jj
 have hr:=Fo (s:=s) (show 0≤most by omega)
 refine Br (v:=.int .i64 most) (fun w=>by rcases h with rfl|rfl <;> kernel_rfl) ?_
 (((refine Bu hM ?_ ?_));(focus (first|exact trivial|assumption|omega));((clear hM;intro _ hM)))
 obtain⟨k,hk⟩:∃ k:Nat,(nmS most s).1=k:=Int.eq_ofNat_of_zero_le hr.1
 rw[hk]
 refine Bi (aAq (s:=(nmS most s).2.rs) k (by omega) (nmS most s).2.ok.1 (nmS most s).2.ok.2 hM) ?_
 clear hM
 rintro v w2 ⟨rfl,hM⟩
 (((refine Ab trivial ?_;refine Ab trivial ?_)))
 unfold txS
 rw[hk]
 exact⟨rfl,hM⟩
instance (g:Nat) (s:RdS) (most:Int):OwnC prog 50 [.pointer (some ⟨g,0,none⟩),.int .i64 most] (rdO g s) (most=1024∨most=65536) (rdO g (txS most s).2) (.string (strOfNums (txS most s).1)):=⟨fun h _ _ _ _ hM=>aQg h hM⟩
theorem aUp (e:Int) (hM:Mem H w0 (rdO g s::L) w):Calls prog 52 #[.pointer (some ⟨g,0,none⟩),.int .i64 e] w fun en w'=>∃ v,en=.returned v∧v=.tuple #[]∧Mem H w0 (rdO g ⟨s.l,if s.e=0 then e else s.e,s.ok⟩::L) w':=by
 refine Rp ?_
 unfold Jk
 refine⟨fun x w'=>x=.bool (decide (s.e=0))∧hM.now w',?_,?_⟩
 ·(((refine Ab trivial ?_;refine Ae ?_;refine Ab trivial ?_;refine Ae ?_;refine Ab trivial ?_;refine Ae ?_;refine Ab trivial ?_;refine Ae ?_;refine An hM ?_;refine Ae ?_)))
  exact⟨rfl,hM⟩
 rintro x u w1 ⟨rfl,hM2⟩
 have hM:Mem H w0 (rdO g s::L) w1:=hM2
 clear hM2
 by_cases he:s.e=0
 ·rw[decide_eq_true he]
  (((refine Am ?_;refine Ab trivial ?_;refine Ab trivial ?_;refine Az hM ?_;clear hM;intro _ hM)))
  refine⟨_,rfl,rfl,?_⟩
  rw[if_pos he]
  exact hM
 ·rw[decide_eq_false he]
  (((refine Aj ?_)))
  refine⟨_,rfl,rfl,?_⟩
  rw[if_neg he]
  exact hM
theorem aYo {P:Program} {s:Sem Next} {S:Rl} {Kt:Value→World→Prop} (h:Mem H w0 L w) (hk:∀ w1,Mem H w0 L w1→mop P s w1 Kt (fun _ _=>False)):dfS P S w s false Kt:=
 ⟨fun w1 hd=>Fc (hk w1 (h.drawn hd)) (fun _ _ x=>⟨(fun e=>by cases e),x⟩) fun _ _ h=>h⟩
theorem Ic {P:Program} {f:Nat} {a:List Value} {c:Prop} {r':Res} {t:TypeId} {fs:List Fd} {put:Res→List Res} {v:Value} {ext:Bool} {Kt:Value→World→Prop} (h:Mem H w0 L w) [hf:FunC P f] [k:AtB L g t fs put] [o:OwnC P f (.pointer (some ⟨g,0,none⟩)::a) (fb g t fs) c r' v] (hc:c) (hk:∀ w',Mem H w0 (put r') w'→Fz K w'∧Kt v w'):dfS P (Rl.fz K) w (Ah (fv f) (.pointer (some ⟨g,0,none⟩)::a)) ext Kt:=
 dfz h fun w1 hM=>Bu hM hc fun w' h'=>hk w' h'
theorem aLl {P:Program} {f:Nat} {a:List Value} {c:Prop} {r':Res} {t:TypeId} {fs:List Fd} {put:Res→List Res} {v:Value} {S:Rl} {Kt:Value→World→Prop} (h:Mem H w0 L w) [hf:FunC P f] [k:AtB L g t fs put] [o:OwnC P f (.pointer (some ⟨g,0,none⟩)::a) (fb g t fs) c r' v] (hc:c) (hk:∀ w',Mem H w0 (put r') w'→Kt v w'):dfS P S w (Ah (fv f) (.pointer (some ⟨g,0,none⟩)::a)) false Kt:=
 aYo h fun w1 hM=>Bu hM hc fun w' h'=>hk w' h'
end
end Go.Proofs.YtgbenhmdamnmcaaGreat.Cmt
set_option linter.unusedVariables false
namespace Go.Proofs.YtgbenhmdamnmcaaGreat
open Go.Proofs.Tryz
abbrev Aq (k0 k1 r0 r1:Value) (R:Ending→World→Prop):Ending→World→Prop:=dR prog 44 [k0,k1] [(28,r0),(34,r1)] R
def My (eS:Value) (w:World) (R:Ending→World→Prop):Prop:=
 m R (Ar 28) w fun a eT=>
 m R (Ar 34) eT fun b eU=>
 m (Aq a b a b R) (Ah (fv 45) [eS]) eU fun aN eV=>
 m (Aq a b a b R) (Ar 93) eV fun c eW=>
 m (Aq a b a b R) (Ai 93 c aN) eW fun _ eX=>
 m (Aq a b a b R) (Gc (.func 46) [] [c]) eX fun e p=>
 ∃ S:Rl,
 dqS prog S p (Ad 93 c) fun aO=>
 dfS prog S p (Ah (fv 48) [aO]) true fun aP eY=>
 dqS prog S p (Ad 93 c) fun aQ=>
 dfS prog S eY (Ah (fv 49) [aQ,(.int .i64 4611686018427387903)]) true fun aR eZ=>
 dqS prog S p (Ad 93 c) fun aS=>
 dfS prog S eZ (Ah (fv 49) [aS,(.int .i64 64)]) false fun aT e0=>
 Dp (Aa 28 a 0) fun aU=>
 dfS prog S e0 (Ai 23 aU aP) false fun _ aV=>
 Dp (Aa 28 a 1) fun aW=>
 dfS prog S aV (Ai 3 aW aR) false fun _ aX=>
 Dp (Aa 28 a 2) fun aY=>
 dfS prog S aX (Ai 3 aY aT) false fun _ aZ=>
 dend aZ fun a0=>
 m (Aq a b a b R) (Ad 93 c) a0 fun a1 a2=>
 m (Aq a b a b R) (Ah (fv 49) [a1,(.int .i64 16)]) a2 fun a3 a4=>
 ml1 a3 a4 fun a5 fC a6 q=>
 m (Aq a b a b R) (Af .gtr 3 true a5 (.int .i64 0)) a6 fun a7 f=>
 mif a7 (
 m (Aq a b a b R) (Ad 93 c) f fun a8 a9=>
 m (Aq a b a b R) (Ah (fv 50) [a8,(.int .i64 1024)]) a9 fun bA bB=>
 m (Aq a b a b R) (Ah e []) bB fun e4 bC=>
 m (Aq a b a b R) (Ah (fv 51) [bA]) bC fun r bD=>
 m (Aq a b a b R) (As r 0) bD fun bE bF=>
 m (Aq a b a b R) (As r 1) bF fun s bG=>
 m (Aq a b a b R) (Ar 75) bG fun bH bI=>
 m (Aq a b a b R) (Ai 75 bH bE) bI fun _ bJ=>
 mj0 (fun t=>
 m (Aq a b a b R) (Af .neq 34 true s (.int .i64 0)) bJ fun bK u=>
 mif bK (
 m (Aq a b a b R) (At 91 [(0,s)]) u fun bL bM=>
 m (Aq a b a b R) (Pq 91 bL) bM fun bN bO=>
 m (Aq a b a b R) (Hu bN) bO fun _ bP=>
 t bP) (
 t u)) fun e5 bQ=>
 m (Aq a b a b R) (Aa 28 a 3) bQ fun bR bS=>
 m (Aq a b a b R) (Ad 24 bR) bS fun bT bU=>
 m (Aq a b a b R) (Ad 75 bH) bU fun bV bW=>
 m (Aq a b a b R) (Al 24 1 [(0,bV)]) bW fun bX bY=>
 m (Aq a b a b R) (Ak .append #[24,24] 24 [false,false] [bT,bX]) bY fun bZ b0=>
 m (Aq a b a b R) (Aa 28 a 3) b0 fun b1 b2=>
 m (Aq a b a b R) (Ai 24 b1 bZ) b2 fun _ b3=>
 m (Aq a b a b R) (Af .sub 3 true a5 (.int .i64 1)) b3 fun b4 b5=>
 q b4 b5) (
 ∃ S:Rl,
 dqS prog S f (Ad 93 c) fun b6=>
 dfS prog S f (Ah (fv 48) [b6]) true fun b7 b8=>
 dqS prog S f (Ad 93 c) fun b9=>
 dfS prog S b8 (Ah (fv 48) [b9]) false fun cA cB=>
 Dp (Aa 28 a 4) fun cC=>
 dfS prog S cB (Ai 23 cC b7) false fun _ cD=>
 Dp (Aa 28 a 5) fun cE=>
 dfS prog S cD (Ai 23 cE cA) false fun _ cF=>
 dend cF fun cG=>
 m (Aq a b a b R) (Ad 93 c) cG fun cH cI=>
 m (Aq a b a b R) (Ah (fv 49) [cH,(.int .i64 64)]) cI fun cJ cK=>
 ml1 cJ cK fun v e6 cL i=>
 m (Aq a b a b R) (Af .gtr 3 true v (.int .i64 0)) cL fun cM x=>
 mif cM (
 m (Aq a b a b R) (Ad 93 c) x fun cN cO=>
 m (Aq a b a b R) (Ah (fv 48) [cN]) cO fun cP cQ=>
 m (Aq a b a b R) (At 43 [(0,cP)]) cQ fun cR cS=>
 m (Aq a b a b R) (Ar 43) cS fun g cT=>
 m (Aq a b a b R) (Ai 43 g cR) cT fun _ cU=>
 m (Aq a b a b R) (Ad 93 c) cU fun cV cW=>
 m (Aq a b a b R) (Ah (fv 49) [cV,(.int .i64 64)]) cW fun cX cY=>
 ml1 cX cY fun y e7 cZ j=>
 m (Aq a b a b R) (Af .gtr 3 true y (.int .i64 0)) cZ fun c0 h=>
 mif c0 (
 ∃ S:Rl,
 Dp (Aa 43 g 1) fun c1=>
 dqS prog S h (Ad 41 c1) fun c2=>
 dqS prog S h (Ad 93 c) fun c3=>
 dfS prog S h (Ah (fv 50) [c3,(.int .i64 1024)]) true fun c4 c5=>
 dfS prog S c5 (Al 41 1 [(0,c4)]) true fun c6 c7=>
 dfS prog S c7 (Ak .append #[41,41] 41 [false,false] [c2,c6]) false fun c8 c9=>
 Dp (Aa 43 g 1) fun dA=>
 dfS prog S c9 (Ai 41 dA c8) false fun _ dB=>
 dend dB fun dC=>
 m (Aq a b a b R) (Ah e []) dC fun e8 dD=>
 m (Aq a b a b R) (Af .sub 3 true y (.int .i64 1)) dD fun dE dF=>
 j dE dF) (
 m (Aq a b a b R) (Aa 28 a 6) h fun dG dH=>
 m (Aq a b a b R) (Ad 25 dG) dH fun dI dJ=>
 m (Aq a b a b R) (Ad 43 g) dJ fun dK dL=>
 m (Aq a b a b R) (Al 25 1 [(0,dK)]) dL fun dM dN=>
 m (Aq a b a b R) (Ak .append #[25,25] 25 [false,false] [dI,dM]) dN fun dO dP=>
 m (Aq a b a b R) (Aa 28 a 6) dP fun dQ dR=>
 m (Aq a b a b R) (Ai 25 dQ dO) dR fun _ dS=>
 m (Aq a b a b R) (Ah e []) dS fun e9 dT=>
 m (Aq a b a b R) (Af .sub 3 true v (.int .i64 1)) dT fun dU dV=>
 i dU dV)) (
 m (Aq a b a b R) (Ad 93 c) x fun dW dX=>
 m (Aq a b a b R) (Ah (fv 50) [dW,(.int .i64 65536)]) dX fun dY dZ=>
 m (Aq a b a b R) (Aa 28 a 7) dZ fun d0 d1=>
 m (Aq a b a b R) (Ai 9 d0 dY) d1 fun _ d2=>
 m (Aq a b a b R) (Ad 93 c) d2 fun d3 d4=>
 m (Aq a b a b R) (Ah (fv 49) [d3,(.int .i64 16)]) d4 fun d5 d6=>
 ml1 d5 d6 fun z fA d7 l=>
 m (Aq a b a b R) (Af .gtr 3 true z (.int .i64 0)) d7 fun d8 d=>
 mif d8 (
 ∃ S:Rl,
 Dp (Aa 28 a 8) fun B=>
 dqS prog S d (Ad 26 B) fun C=>
 dqS prog S d (Ad 93 c) fun D=>
 dfS prog S d (Ah (fv 49) [D,(.int .i64 64)]) true fun E d9=>
 dqS prog S d (Ad 93 c) fun F=>
 dfS prog S d9 (Ah (fv 49) [F,(.int .i64 4611686018427387903)]) true fun G eA=>
 dqS prog S d (Ad 93 c) fun H=>
 dfS prog S eA (Ah (fv 50) [H,(.int .i64 1024)]) true fun I eB=>
 Dp (At 45 [(0,E),(1,G),(2,I)]) fun J=>
 dfS prog S eB (Al 26 1 [(0,J)]) true fun K eC=>
 dfS prog S eC (Ak .append #[26,26] 26 [false,false] [C,K]) false fun L eD=>
 Dp (Aa 28 a 8) fun M=>
 dfS prog S eD (Ai 26 M L) false fun _ eE=>
 dend eE fun eF=>
 m (Aq a b a b R) (Ah e []) eF fun e1 eG=>
 m (Aq a b a b R) (Af .sub 3 true z (.int .i64 1)) eG fun eH eI=>
 l eH eI) (
 ∃ S:Rl,
 dqS prog S d (Ad 93 c) fun N=>
 dfS prog S d (Ah (fv 48) [N]) true fun O eJ=>
 dqS prog S d (Ad 93 c) fun Q=>
 dfS prog S eJ (Ah (fv 48) [Q]) false fun T eK=>
 Dp (Aa 28 a 9) fun U=>
 dfS prog S eK (Ai 23 U O) false fun _ eL=>
 Dp (Aa 28 a 10) fun V=>
 dfS prog S eL (Ai 23 V T) false fun _ eM=>
 dend eM fun n=>
 ∃ S:Rl,
 dqS prog S n (Ad 93 c) fun W=>
 dqS prog S n (Ad 93 c) fun X=>
 dfS prog S n (Ah (fv 53) [X]) true fun Y eN=>
 dfS prog S eN (Ah (fv 52) [W,Y]) false fun e2 eO=>
 dend eO fun eP=>
 m (Aq a b a b R) (Ah e []) eP fun e3 eQ=>
 mj0 (fun A=>
 m (Aq a b a b R) (Ad 28 a) eQ fun Z eR=>
 m (Aq a b a b R) (Ah (fv 9) [Z]) eR fun aA aB=>
 m (Aq a b a b R) (Cz .not aA) aB fun aC o=>
 mif aC (
 m (Aq a b a b R) (At 91 [(0,(.int .i64 3))]) o fun aD aE=>
 m (Aq a b a b R) (Pq 91 aD) aE fun aF aG=>
 m (Aq a b a b R) (Hu aF) aG fun _ aH=>
 A aH) (
 A o)) fun fB aI=>
 m (Aq a b a b R) (Ad 28 a) aI fun aJ aK=>
 m (Aq a b a b R) (Ai 28 a aJ) aK fun _ aL=>
 m (Aq a b a b R) (Ai 34 b (.int .i64 0)) aL fun _ aM=>
 (Aq a b a b R) (.returned undef) aM)))
theorem Wi {x0:Value} {w:World} {R:Ending→World→Prop} (h:My x0 w R):Calls prog 16 #[x0] w R:=
 Yw (A:=mkA Tryz.f16 [(6,[6],9007198717871040),(16,[10],P_ 91+P_ 13-P_ 61-P_ 10),(20,[12],P_ 83+P_ 12-P_ 70),(28,[13],P_ 114+P_ 13-P_ 96)] [(13,[],P_ 47-P_ 42),(37,[],P_ 131-P_ 126)] [(4,[3,2,3,5,3,7,0,10,0,13,0,16]),(14,[3,2,3,4,0,7,0,10]),(22,[0,3,3,2,5,7,0,10]),(30,[0,3,3,2,3,5,3,8,0,11,13,0,16]),(32,[3,2,3,4,0,7,0,10]),(33,[3,3,2,4])] [] [4,14,22,30,32,33]) (args:=[x0]) (c1:=cl (Tryz.f16.body.getD .skip)) (c2:=cr (cr (Tryz.f16.body.getD .skip))) (id:=1) (o1:=cop (cl (cr (Tryz.f16.body.getD .skip))) 0) (o2:=cop (cl (cr (Tryz.f16.body.getD .skip))) 1) (d:=14) (g:=44) (caps:=[.tmp 2,.tmp 3]) mixed Tryz.func16 (by kernel_rfl) ⟨by kernel_rfl,by kernel_rfl,by kernel_rfl⟩ ⟨by kernel_rfl,by kernel_rfl,by kernel_rfl⟩ (by kernel_rfl) (by kernel_rfl) (by kernel_rfl) (by kernel_rfl) (by kernel_rfl) (by kernel_rfl) (Eq.mpr (by kernel_rfl) h)
def Iv (gE:Value) (w:World) (R:Ending→World→Prop):Prop:=
 m R (Ar 28) w fun d gF=>
 m R (At 105 [(0,gE)]) gF fun cZ gG=>
 m R (Bo 105 cZ) gG fun a gH=>
 m R (At 28 []) gH fun c0 gI=>
 m R (Ar 28) gI fun b gJ=>
 m R (Ai 28 b c0) gJ fun _ gK=>
 m R (Ah (fv 57) [a]) gK fun c1 gL=>
 m R (Aa 28 b 0) gL fun c2 gM=>
 m R (Ai 23 c2 c1) gM fun _ gN=>
 m R (Ah (fv 58) [a,(.int .i64 4611686018427387903)]) gN fun c3 c4=>
 m R (Aa 28 b 1) c4 fun c5 c6=>
 m R (Ai 3 c5 c3) c6 fun _ c7=>
 m R (Ah (fv 58) [a,(.int .i64 64)]) c7 fun c8 c9=>
 m R (Aa 28 b 2) c9 fun dA dB=>
 m R (Ai 3 dA c8) dB fun _ dC=>
 m R (Ah (fv 58) [a,(.int .i64 16)]) dC fun dD dE=>
 ml1 (.int .i64 0) dE fun dF gV dG B=>
 mj0 (fun dH=>
 m R (Af .lss 3 false dF dD) dG fun e C=>
 Gt R e (Bp a) C fun dI D=>
 Gt R e (Ao dI) D fun dJ E=>
 Gt R e (Aa 105 dJ 1) E fun dK F=>
 Gt R e (Ad 3 dK) F fun dL G=>
 Gt R e (Af .eql 3 true dL (.int .i64 0)) G fun dM dN=>
 m R (Bd e dM (.bool false)) dN fun dO H=>
 mif dO (
 dH H) (
 m R (Ah (fv 57) [a]) H fun dP dQ=>
 m R (Aa 28 b 4) dQ fun dR dS=>
 m R (Ai 23 dR dP) dS fun _ dT=>
 m R (Ah (fv 57) [a]) dT fun dU dV=>
 m R (Aa 28 b 5) dV fun dW dX=>
 m R (Ai 23 dW dU) dX fun _ dY=>
 m R (Ah (fv 58) [a,(.int .i64 64)]) dY fun dZ d0=>
 ml1 (.int .i64 0) d0 fun I gO d1 n=>
 mj0 (fun d2=>
 m R (Af .lss 3 false I dZ) d1 fun f J=>
 Gt R f (Bp a) J fun d3 K=>
 Gt R f (Ao d3) K fun d4 L=>
 Gt R f (Aa 105 d4 1) L fun d5 M=>
 Gt R f (Ad 3 d5) M fun d6 N=>
 Gt R f (Af .eql 3 true d6 (.int .i64 0)) N fun d7 d8=>
 m R (Bd f d7 (.bool false)) d8 fun d9 O=>
 mif d9 (
 d2 O) (
 m R (Ah (fv 59) [a,(.int .i64 65536)]) O fun aH eA=>
 m R (Aa 28 b 7) eA fun aI eB=>
 m R (Ai 9 aI aH) eB fun _ eC=>
 m R (Ah (fv 58) [a,(.int .i64 16)]) eC fun aJ eD=>
 ml1 (.int .i64 0) eD fun Q gP eE o=>
 mj0 (fun eF=>
 m R (Af .lss 3 false Q aJ) eE fun c T=>
 Gt R c (Bp a) T fun aK U=>
 Gt R c (Ao aK) U fun aL V=>
 Gt R c (Aa 105 aL 1) V fun aM W=>
 Gt R c (Ad 3 aM) W fun aN X=>
 Gt R c (Af .eql 3 true aN (.int .i64 0)) X fun aO eG=>
 m R (Bd c aO (.bool false)) eG fun aP Y=>
 mif aP (
 eF Y) (
 m R (Ah (fv 57) [a]) Y fun aQ eH=>
 m R (Aa 28 b 9) eH fun aR eI=>
 m R (Ai 23 aR aQ) eI fun _ eJ=>
 m R (Ah (fv 57) [a]) eJ fun aS eK=>
 m R (Aa 28 b 10) eK fun aT eL=>
 m R (Ai 23 aT aS) eL fun _ eM=>
 m R (Ah (fv 61) [a]) eM fun aU eN=>
 m R (Af .neq 3 true aU (.int .i64 0)) eN fun aV Z=>
 mif aV (
 m R (At 28 []) Z fun aW eO=>
 m R (Ah (fv 61) [a]) eO fun aX eP=>
 m R (Ai 28 d aW) eP fun _ aA=>
 rcell prog 28 d aA fun h=>
 R (.returned (.tuple #[h,aX])) aA) (
 m R (Ad 28 b) Z fun aY eQ=>
 m R (Ah (fv 10) [aY]) eQ fun aZ eR=>
 m R (Cz .not aZ) eR fun a0 aB=>
 mif a0 (
 m R (At 28 []) aB fun a1 eS=>
 m R (Ai 28 d a1) eS fun _ aC=>
 rcell prog 28 d aC fun h=>
 R (.returned (.tuple #[h,(.int .i64 3)])) aC) (
 m R (Ad 28 b) aB fun a2 eT=>
 m R (Ai 28 d a2) eT fun _ aD=>
 rcell prog 28 d aD fun h=>
 R (.returned (.tuple #[h,(.int .i64 0)])) aD)))) fun gQ eU=>
 m R (At 45 []) eU fun a3 eV=>
 m R (Ar 45) eV fun i eW=>
 m R (Ai 45 i a3) eW fun _ eX=>
 m R (Ah (fv 58) [a,(.int .i64 64)]) eX fun a4 eY=>
 m R (Aa 45 i 0) eY fun a5 eZ=>
 m R (Ai 3 a5 a4) eZ fun _ e0=>
 m R (Ah (fv 58) [a,(.int .i64 4611686018427387903)]) e0 fun a6 e1=>
 m R (Aa 45 i 1) e1 fun a7 e2=>
 m R (Ai 3 a7 a6) e2 fun _ e3=>
 m R (Ah (fv 59) [a,(.int .i64 1024)]) e3 fun a8 e4=>
 m R (Aa 45 i 2) e4 fun a9 e5=>
 m R (Ai 9 a9 a8) e5 fun _ e6=>
 m R (Aa 28 b 8) e6 fun bA e7=>
 m R (Ad 26 bA) e7 fun bB e8=>
 m R (Ad 45 i) e8 fun bC e9=>
 m R (Al 26 1 [(0,bC)]) e9 fun bD fA=>
 m R (Ak .append #[26,26] 26 [false,false] [bB,bD]) fA fun bE fB=>
 m R (Aa 28 b 8) fB fun bF fC=>
 m R (Ai 26 bF bE) fC fun _ fD=>
 m R (Af .add 3 true Q (.int .i64 1)) fD fun bG fE=>
 o bG fE)) fun gR fF=>
 m R (At 43 []) fF fun fG fH=>
 m R (Ar 43) fH fun j fI=>
 m R (Ai 43 j fG) fI fun _ fJ=>
 m R (Ah (fv 57) [a]) fJ fun fK fL=>
 m R (Aa 43 j 0) fL fun fM fN=>
 m R (Ai 23 fM fK) fN fun _ fO=>
 m R (Ah (fv 58) [a,(.int .i64 64)]) fO fun fP fQ=>
 ml1 (.int .i64 0) fQ fun aE gS fR p=>
 mj0 (fun fS=>
 m R (Af .lss 3 false aE fP) fR fun g q=>
 Gt R g (Bp a) q fun bH r=>
 Gt R g (Ao bH) r fun bI s=>
 Gt R g (Aa 105 bI 1) s fun bJ t=>
 Gt R g (Ad 3 bJ) t fun bK u=>
 Gt R g (Af .eql 3 true bK (.int .i64 0)) u fun bL bM=>
 m R (Bd g bL (.bool false)) bM fun bN v=>
 mif bN (
 fS v) (
 m R (Aa 28 b 6) v fun bO bP=>
 m R (Ad 25 bO) bP fun bQ bR=>
 m R (Ad 43 j) bR fun bS bT=>
 m R (Al 25 1 [(0,bS)]) bT fun bU bV=>
 m R (Ak .append #[25,25] 25 [false,false] [bQ,bU]) bV fun bW bX=>
 m R (Aa 28 b 6) bX fun bY bZ=>
 m R (Ai 25 bY bW) bZ fun _ b0=>
 m R (Af .add 3 true I (.int .i64 1)) b0 fun fT b1=>
 n fT b1)) fun gT x=>
 ∃ S:Rl,
 Dp (Aa 43 j 1) fun b2=>
 dqS prog S x (Ad 41 b2) fun b3=>
 dfS prog S x (Ah (fv 59) [a,(.int .i64 1024)]) true fun b4 b5=>
 dfS prog S b5 (Al 41 1 [(0,b4)]) true fun b6 b7=>
 dfS prog S b7 (Ak .append #[41,41] 41 [false,false] [b3,b6]) false fun b8 b9=>
 Dp (Aa 43 j 1) fun cA=>
 dfS prog S b9 (Ai 41 cA b8) false fun _ cB=>
 dend cB fun cC=>
 m R (Af .add 3 true aE (.int .i64 1)) cC fun cD cE=>
 p cD cE)) fun gU cF=>
 m R (Ah (fv 59) [a,(.int .i64 1024)]) cF fun fU cG=>
 m R (Ao a) cG fun fV cH=>
 m R (Aa 105 fV 1) cH fun fW cI=>
 m R (Ad 3 fW) cI fun fX cJ=>
 m R (Af .neq 3 true fX (.int .i64 0)) cJ fun fY l=>
 mif fY (
 ∃ S:Rl,
 Dp (At 28 []) fun fZ=>
 Dp (Ao a) fun f0=>
 Dp (Aa 105 f0 1) fun f1=>
 dqS prog S l (Ad 3 f1) fun f2=>
 dfS prog S l (Ai 28 d fZ) true fun _ cK=>
 dend cK fun y=>
 rcell prog 28 d y fun h=>
 R (.returned (.tuple #[h,f2])) y) (
 m R (Ah (fv 60) [fU]) l fun aF cL=>
 m R (As aF 0) cL fun f3 cM=>
 m R (As aF 1) cM fun aG cN=>
 m R (Ar 75) cN fun f4 cO=>
 m R (Ai 75 f4 f3) cO fun _ cP=>
 m R (Af .neq 3 true aG (.int .i64 0)) cP fun f5 z=>
 mif f5 (
 m R (At 28 []) z fun f6 cQ=>
 m R (Ai 28 d f6) cQ fun _ A=>
 rcell prog 28 d A fun h=>
 R (.returned (.tuple #[h,aG])) A) (
 m R (Aa 28 b 3) z fun f7 cR=>
 m R (Ad 24 f7) cR fun f8 cS=>
 m R (Ad 75 f4) cS fun f9 cT=>
 m R (Al 24 1 [(0,f9)]) cT fun gA cU=>
 m R (Ak .append #[24,24] 24 [false,false] [f8,gA]) cU fun gB cV=>
 m R (Aa 28 b 3) cV fun gC cW=>
 m R (Ai 24 gC gB) cW fun _ cX=>
 m R (Af .add 3 true dF (.int .i64 1)) cX fun gD cY=>
 B gD cY))
variable {x0 x1 x2 x3 x4 x5 x6 x7 x8 x9:Value} {w:World} {R:Ending→World→Prop}
theorem Qj (h:Iv x0 w R):Calls prog 19 #[x0] w R:=cc (mkA Tryz.f19 [(8,[7],2361183241430527641480),(21,[11],P_ 122+P_ 15-P_ 79-P_ 11),(34,[15],P_ 155+P_ 17-P_ 127-P_ 15),(27,[14],P_ 116+P_ 14-P_ 97)] [(10,[],4393751543808),(23,[],P_ 89-P_ 79),(36,[],P_ 137-P_ 127),(29,[],P_ 107-P_ 97)] [(29,[0,3,0,2,5,7,0,10]),(12,[0,0,0,0,3,2,0])] [] [29,12]) [x0] Tryz.func19 h
end Go.Proofs.YtgbenhmdamnmcaaGreat
namespace Go.Proofs.YtgbenhmdamnmcaaGreat
open Go.Proofs.Tryz
open Go.RowKit
abbrev ssaid:ByteArray:=ByteArray.mk #[115,97,105,100]
abbrev sspot:ByteArray:=ByteArray.mk #[115,112,111,116]
abbrev swelcome:ByteArray:=ByteArray.mk #[119,101,108,99,111,109,101]
abbrev sepo:ByteArray:=ByteArray.mk #[101,112,111,99,104]
abbrev sinit:ByteArray:=ByteArray.mk #[105,110,105,116]
abbrev sconfirm:ByteArray:=ByteArray.mk #[99,111,110,102,105,114,109]
abbrev sapps:ByteArray:=ByteArray.mk #[97,112,112,115]
abbrev sexport:ByteArray:=ByteArray.mk #[101,120,112,111,114,116]
abbrev sapp:ByteArray:=ByteArray.mk #[97,112,112]
def saidH (before:H32) (core:ByteArray):H32:=shaH (ints ssaid++(before.1++ints core))
def ctxL (parent:H32) (depth:Int) (tree said:H32):List Int:=parent.1++numB depth++tree.1++said.1
structure Sec where
 joiner:H32
 welcome:H32
 epoch:H32
 init:H32
 confirm:H32
 apps:H32
 export_:H32
abbrev Sec.fds (s:Sec):List Fd:=[.arr 32 (u8s s.joiner.1),.arr 32 (u8s s.welcome.1),.arr 32 (u8s s.epoch.1),.arr 32 (u8s s.init.1),.arr 32 (u8s s.confirm.1),.arr 32 (u8s s.apps.1),.arr 32 (u8s s.export_.1)]
abbrev Sec.v (s:Sec):Value:=.agg (fl s.fds).toArray
def secOf (j:H32) (ctx:ByteArray):Sec:=
 let e:=drv j sepo ctx
 ⟨j,drv j swelcome es0,e,drv e sinit es0,drv e sconfirm es0,drv e sapps es0,drv e sexport es0⟩
def appH (apps:H32) (place:Int):H32:=drv apps sapp (strOfNums (numB place))
def tagH (confirm said:H32):H32:=hmacH confirm.1 (ints stag++said.1)
section
variable {H:Hp} {w0 w:World} {L R:List Res} {g:Nat}
theorem aUq (h:H32) (core:ByteArray) (hc:core.size≤100000000) (w:World):Calls prog 63 #[ha h,.string core] w fun en w'=>en=.returned (ha (saidH h core))∧St w [] w':=by
 have hM:=Mem.start (Fz.of w)
 refine aGq ?_
 unfold Wt
 (((refine Bh hM ?_;clear hM;intro _ _ hM;refine Bf hM ?_;clear hM;intro _ _ hM;refine Ab trivial ?_;refine Jh hM ?_;refine Bx hM ?_ ?_ ?_));(focus rfl);(focus (constructor <;> simp));((clear hM;intro _ _ hM)))
 refine Bn hM (aMt ssaid (strOfNums h.1) core (by rw[strOfNums_size,h.2.1];show 4+32+_<_;omega) hM) (fun w2 hM=>?_)
 rw[Ce h.1 h.2.2]
 (((refine Az hM ?_;clear hM;intro _ hM;refine Bz hM ?_)))
 exact⟨rfl,hM.st⟩
instance (h:H32) (core:ByteArray):PurC prog 63 [.agg (u8s h.1).toArray,.string core] (core.size≤100000000) (.agg (u8s (saidH h core).1).toArray):=⟨fun k w=>aUq h core k w⟩
theorem bAq (p:H32) (d:Int) (t s:H32) (hd:0≤d∧d≤4611686018427387903) (w:World):Calls prog 64 #[ha p,.int .i64 d,ha t,ha s] w fun en w'=>en=.returned (.string (strOfNums (ctxL p d t s)))∧St w [] w':=by
 have hM:=Mem.start (Fz.of w)
 have hn:=Be d
 have h1:=p.2.1
 have h2:=t.2.1
 refine Zr ?_
 unfold Or
 (((refine Bh hM ?_;clear hM;intro _ _ hM;refine Bh hM ?_;clear hM;intro _ _ hM;refine Bh hM ?_;clear hM;intro _ _ hM)))
 refine Bi (Hw hM) ?_
 rintro v w2 ⟨g,rfl,hM⟩
 (((refine An hM ?_)))
 refine Bi (Dd p (by simp) (hM.at_ (wrR g [] false))) ?_
 rintro v w3 ⟨rfl,hM⟩
 rw[List.nil_append]at hM
 skip
 refine Bi (Da d hd (by omega) (hM.at_ (wrR g p.1 false))) ?_
 rintro v w4 ⟨rfl,hM⟩
 (((refine An hM ?_)))
 refine Bi (Dd t (by rw[List.length_append];omega) (hM.at_ (wrR g (p.1++numB d) false))) ?_
 rintro v w5 ⟨rfl,hM⟩
 (((refine An hM ?_)))
 refine Bi (Dd s (by rw[List.length_append,List.length_append];omega) (hM.at_ (wrR g (p.1++numB d++t.1) false))) ?_
 rintro v w6 ⟨rfl,hM⟩
 skip
 refine Bn hM (Ia hM) (fun w hM=>?_)
 (((refine Ab trivial ?_;refine Ab trivial ?_)))
 exact⟨rfl,hM.st⟩
instance (p:H32) (d:Int) (t s:H32):PurC prog 64 [.agg (u8s p.1).toArray,.int .i64 d,.agg (u8s t.1).toArray,.agg (u8s s.1).toArray] (0≤d∧d≤4611686018427387903) (.string (strOfNums (ctxL p d t s))):=⟨fun k w=>bAq p d t s k w⟩
theorem bAr (a:H32) (p:Int) (hp:0≤p∧p<64) (w:World):Calls prog 133 #[.pointer none,ha a,.int .i64 p] w fun en w'=>en=.returned (ha (appH a p))∧St w [] w':=by
 have hM:=Mem.start (Fz.of w)
 have hn:=Be p
 refine aJp ?_
 unfold Zz
 (((refine Bh hM ?_;clear hM;intro _ _ hM;refine Bf hM ?_;clear hM;intro _ _ hM)))
 refine⟨fun v w'=>v=.bool false∧hM.now w',?_,?_⟩
 ·(((refine Bm trivial ?_ ?_));(focus (first|assumption|omega|with_reducible rfl|exact fun h=>Bool.noConfusion h));((refine Ae ?_;refine Ab trivial ?_;refine Ae ?_;refine Bm trivial ?_ ?_));(focus (first|assumption|omega|with_reducible rfl|exact fun h=>Bool.noConfusion h));((refine Ab trivial ?_)))
  exact⟨rfl,hM⟩
 rintro v u w2 ⟨rfl,hM⟩
 (((refine Aj ?_)))
 refine Bi (Hw hM) ?_
 rintro v w3 ⟨g,rfl,hM⟩
 skip
 refine Bi (Da p (by omega) (by simp) (hM.at_ (wrR g [] false))) ?_
 rintro v w4 ⟨rfl,hM⟩
 rw[List.nil_append]at hM
 skip
 refine Bn hM (Ia hM) (fun w hM=>?_)
 have d1:sapp.size≤1000000∧(strOfNums (numB p)).size≤1000000:=⟨by decide,by rw[strOfNums_size];omega⟩
 (((refine Ab trivial ?_;refine Ab trivial ?_;refine An hM ?_;refine Bl hM ?_ ?_));(focus (first|exact trivial|assumption|omega));((clear hM;intro _ hM;refine Az hM ?_;clear hM;intro _ hM;refine Bz hM ?_)))
 exact⟨rfl,hM.st⟩
instance (a:H32) (p:Int):PurC prog 133 [.pointer none,.agg (u8s a.1).toArray,.int .i64 p] (0≤p∧p<64) (.agg (u8s (appH a p).1).toArray):=⟨fun k w=>bAr a p k w⟩
theorem aXk (c s:H32) (w:World):Calls prog 95 #[ha c,ha s] w fun en w'=>en=.returned (ha (tagH c s))∧St w [] w':=by
 have hM:=Mem.start (Fz.of w)
 refine aJo ?_
 unfold Zx
 (((refine Bh hM ?_;clear hM;intro _ _ hM;refine Bh hM ?_;clear hM;intro _ _ hM;refine Bf hM ?_;clear hM;intro _ _ hM;refine Ap trivial ?_;refine Cw hM ?_;refine Ap trivial ?_;refine Cw hM ?_;refine Cf hM ?_ ?_ ?_));(focus rfl);(focus (constructor <;> simp));((clear hM;intro _ _ hM)))
 refine Cg hM (fun w hM=>aTc c stag (strOfNums s.1) (by decide) (by rw[strOfNums_size,s.2.1];decide) hM) (fun w2 hx hM=>?_)
 rw[Ce s.1 s.2.2]
 (((refine Ca hM ?_;clear hM;intro _ hM;refine Bc hM ?_;clear hM;intro _ hM;refine Bz hM ?_)))
 exact⟨rfl,hM.st⟩
theorem aXl (core:ByteArray) (hc:core.size≤100000000) (w:World):Calls prog 80 #[.string core] w fun en w'=>∃ v,en=.returned v∧∃ n:Int,v=.int .i64 n∧0≤n∧n<4294967296∧St w [] w':=by
 have hM:=Mem.start (Fz.of w)
 refine aGt ?_
 unfold Ww
 (((refine Bx hM ?_ ?_ ?_));(focus rfl);(focus (constructor <;> simp));((clear hM;intro _ _ hM)))
 refine Bn hM (Gb sspot core (by show 4+_<_;omega) hM) (fun w2 hM=>?_)
 generalize shaH (ints sspot++ints core)=h
 have hb:=h.2.2
 have hl:=h.2.1
 (((refine Bf hM ?_;clear hM;intro _ _ hM;refine Az hM ?_;clear hM;intro _ hM;refine Ab ?_ ?_));(focus omega);((refine Ab trivial ?_)))
 refine⟨fun x v w'=>∃ (i:Nat) (n:Int),v=.int .i64 i∧i≤4∧x=.int .i64 n∧0≤n∧n<256 ^ i∧hM.now w',fun _ v _=>match v with | .int _ k=>4 - k.toNat|_=>0,⟨0,0,rfl,by omega,rfl,by omega,by decide,hM⟩,?_⟩
 rintro x v u w3 ⟨i,n,rfl,hi,rfl,hn0,hn1,hM⟩
 (((refine Aw trivial ?_ ?_)))
 ·intro hlt
  have hx:=hb (h.1[i]'(by omega)) (List.getElem_mem _)
  (((refine Am ?_;refine Ab ?_ ?_));(focus omega))
  have hM:Mem _ _ _ _:=hM
  refine aJj hM (v:=.int .u8 (h.1[i]'(by omega))) (by simp[u8s]) ?_
  have hn2:n<16777216:=by
   obtain rfl|rfl|rfl|rfl:i=0∨i=1∨i=2∨i=3:=by omega
   all_goals simp at hn1
   all_goals omega
  refine Br (Lk _ _ _ _ _ _ (by omega) (by simp[IntKind.bits])) ?_
  have e8:IntKind.i64.wrap (n*2 ^ (8:Int).toNat)=n*256:=by
   rw[show(2:Int) ^ (8:Int).toNat=256 from rfl]
   exact Nc (by omega)
  rw[e8]
  (((refine Ab ?_ ?_));(focus omega);((refine Ab trivial ?_;refine Ab ?_ ?_));(focus omega))
  rw[aRo n _ (by omega) hx]
  exact⟨⟨i+1,n*256+h.1[i],rfl,by omega,rfl,by omega,by rw[Int.pow_succ];omega,hM⟩,by dsimp only;omega⟩
 ·intro hge
  obtain rfl:i=4:=by omega
  (((refine Aj ?_)))
  exact⟨_,rfl,n,rfl,hn0,by omega,hM.st⟩
theorem aNg (j:H32) (ctx:ByteArray) (hc:ctx.size≤1000000) (w:World):Calls prog 66 #[.pointer none,ha j,.string ctx] w fun en w'=>en=.returned (secOf j ctx).v∧St w [] w':=by
 have hM:=Mem.start (Fz.of w)
 have d1:swelcome.size≤1000000∧es0.size≤1000000:=by decide
 have d2:sepo.size≤1000000∧ctx.size≤1000000:=⟨by decide,hc⟩
 refine aGs ?_
 unfold Wv
 (((refine Bh hM ?_;clear hM;intro _ _ hM;refine Bf hM ?_;clear hM;intro _ _ hM;refine An hM ?_;refine Ab trivial ?_;refine Bf hM ?_;clear hM;intro _ _ hM;refine Az hM ?_;clear hM;intro _ hM;refine An hM ?_;refine Bl hM ?_ ?_));(focus (first|exact trivial|assumption|omega));((clear hM;intro _ hM;refine Ab trivial ?_;refine Az hM ?_;clear hM;intro _ hM;refine An hM ?_;refine Bl hM ?_ ?_));(focus (first|exact trivial|assumption|omega));((clear hM;intro _ hM;refine Ab trivial ?_;refine Az hM ?_;clear hM;intro _ hM;(iterate 9 refine Ab trivial ?_))))
 rename_i g4 _ g6 _ g7 _ _ _ _ _ _
 generalize hE:drv j sepo ctx=e at hM
 have d3:sinit.size≤1000000∧es0.size≤1000000:=by decide
 have d4:sconfirm.size≤1000000∧es0.size≤1000000:=by decide
 have d5:sapps.size≤1000000∧es0.size≤1000000:=by decide
 have d6:sexport.size≤1000000∧es0.size≤1000000:=by decide
 refine⟨fun v w'=>∃ i:Nat,v=.int .i64 i∧i≤4∧(match i with
  | 0=>Mem (Hp.of w) w [fb g7 123 (Sec.mk j (drv j swelcome es0) e hzero hzero hzero hzero).fds,fb g6 123 (Sec.mk hzero hzero hzero hzero hzero hzero hzero).fds] w'
  | 1=>Mem (Hp.of w) w [fb g7 123 (Sec.mk j (drv j swelcome es0) e (drv e sinit es0) hzero hzero hzero).fds,fb g6 123 (Sec.mk hzero hzero hzero hzero hzero hzero hzero).fds] w'
  | 2=>Mem (Hp.of w) w [fb g7 123 (Sec.mk j (drv j swelcome es0) e (drv e sinit es0) (drv e sconfirm es0) hzero hzero).fds,fb g6 123 (Sec.mk hzero hzero hzero hzero hzero hzero hzero).fds] w'
  | 3=>Mem (Hp.of w) w [fb g7 123 (Sec.mk j (drv j swelcome es0) e (drv e sinit es0) (drv e sconfirm es0) (drv e sapps es0) hzero).fds,fb g6 123 (Sec.mk hzero hzero hzero hzero hzero hzero hzero).fds] w'
  | _=>Mem (Hp.of w) w [fb g7 123 (Sec.mk j (drv j swelcome es0) e (drv e sinit es0) (drv e sconfirm es0) (drv e sapps es0) (drv e sexport es0)).fds,fb g6 123 (Sec.mk hzero hzero hzero hzero hzero hzero hzero).fds] w'),
  fun x _=>match x with | .int _ i=>4 - i.toNat|_=>0,⟨0,rfl,by omega,hM.sub⟩,?_⟩
 clear hM
 rintro x u w3 ⟨i,rfl,hi,hM⟩
 (((refine Aw trivial ?_ ?_)))
 ·intro hlt
  obtain rfl|rfl|rfl|rfl:i=0∨i=1∨i=2∨i=3:=by omega
  ·have hM:Mem (Hp.of w) w _ w3:=hM
   (((refine Am ?_)))
   refine Br (v:=.agg (fl [Fd.one (.pointer (some ⟨g7,96,none⟩)),.one (.string sinit)]).toArray) (fun w=>by kernel_rfl) ?_
   (((refine Bf hM ?_;clear hM;intro _ _ hM;refine Az hM ?_;clear hM;intro _ hM;refine Ap trivial ?_;refine Ba hM ?_;refine Ap trivial ?_;refine Ba hM ?_;refine Ap trivial ?_;refine Ba hM ?_;refine Bs hM ?_ (fun _ _ hM=>?_)));(focus (first|exact trivial|assumption|omega));((refine Ap trivial ?_;refine Ca hM ?_;clear hM;intro _ hM;refine Bc hM ?_;clear hM;intro _ hM;refine Ab ?_ ?_));(focus omega))
   exact⟨⟨1,rfl,by omega,hM.sub⟩,by dsimp only;omega⟩
  ·have hM:Mem (Hp.of w) w _ w3:=hM
   (((refine Am ?_)))
   refine Br (v:=.agg (fl [Fd.one (.pointer (some ⟨g7,128,none⟩)),.one (.string sconfirm)]).toArray) (fun w=>by kernel_rfl) ?_
   (((refine Bf hM ?_;clear hM;intro _ _ hM;refine Az hM ?_;clear hM;intro _ hM;refine Ap trivial ?_;refine Ba hM ?_;refine Ap trivial ?_;refine Ba hM ?_;refine Ap trivial ?_;refine Ba hM ?_;refine Bs hM ?_ (fun _ _ hM=>?_)));(focus (first|exact trivial|assumption|omega));((refine Ap trivial ?_;refine Ca hM ?_;clear hM;intro _ hM;refine Bc hM ?_;clear hM;intro _ hM;refine Ab ?_ ?_));(focus omega))
   exact⟨⟨2,rfl,by omega,hM.sub⟩,by dsimp only;omega⟩
  ·have hM:Mem (Hp.of w) w _ w3:=hM
   (((refine Am ?_)))
   refine Br (v:=.agg (fl [Fd.one (.pointer (some ⟨g7,160,none⟩)),.one (.string sapps)]).toArray) (fun w=>by kernel_rfl) ?_
   (((refine Bf hM ?_;clear hM;intro _ _ hM;refine Az hM ?_;clear hM;intro _ hM;refine Ap trivial ?_;refine Ba hM ?_;refine Ap trivial ?_;refine Ba hM ?_;refine Ap trivial ?_;refine Ba hM ?_;refine Bs hM ?_ (fun _ _ hM=>?_)));(focus (first|exact trivial|assumption|omega));((refine Ap trivial ?_;refine Ca hM ?_;clear hM;intro _ hM;refine Bc hM ?_;clear hM;intro _ hM;refine Ab ?_ ?_));(focus omega))
   exact⟨⟨3,rfl,by omega,hM.sub⟩,by dsimp only;omega⟩
  ·have hM:Mem (Hp.of w) w _ w3:=hM
   (((refine Am ?_)))
   refine Br (v:=.agg (fl [Fd.one (.pointer (some ⟨g7,192,none⟩)),.one (.string sexport)]).toArray) (fun w=>by kernel_rfl) ?_
   (((refine Bf hM ?_;clear hM;intro _ _ hM;refine Az hM ?_;clear hM;intro _ hM;refine Ap trivial ?_;refine Ba hM ?_;refine Ap trivial ?_;refine Ba hM ?_;refine Ap trivial ?_;refine Ba hM ?_;refine Bs hM ?_ (fun _ _ hM=>?_)));(focus (first|exact trivial|assumption|omega));((refine Ap trivial ?_;refine Ca hM ?_;clear hM;intro _ hM;refine Bc hM ?_;clear hM;intro _ hM;refine Ab ?_ ?_));(focus omega))
   exact⟨⟨4,rfl,by omega,hM.sub⟩,by dsimp only;omega⟩
 ·intro hge
  obtain rfl:i=4:=by omega
  have hM:Mem (Hp.of w) w [fb g7 123 (Sec.mk j (drv j swelcome es0) e (drv e sinit es0) (drv e sconfirm es0) (drv e sapps es0) (drv e sexport es0)).fds,fb g6 123 (Sec.mk hzero hzero hzero hzero hzero hzero hzero).fds] w3:=hM
  (((refine Aj ?_;refine An hM ?_;refine Az hM ?_;clear hM;intro _ hM;refine Bz hM ?_)))
  exact⟨by rw[← hE];rfl,hM.st⟩
end
end Go.Proofs.YtgbenhmdamnmcaaGreat
namespace Go.Proofs.YtgbenhmdamnmcaaGreat
open Go.Proofs.Tryz
open Go.RowKit Go.Proofs.YtgbenhmdamnmcaaGreat.Chg
def privK (n:Int):H32:=hset (hset hzero 0 (n%256)) 1 55
def initK (n k:Int):H32:=hset (hset (hset hzero 0 (n%256)) 1 (k%256)) 2 1
def leafK (n k:Int):H32:=hset (hset (hset hzero 0 (n%256)) 1 (k%256)) 2 2
def deckF (n:Int) (j:Nat):List (List Fd):=(List.range j).map fun(k:Nat)=>[.arr 32 (u8s (initK n k).1),.arr 32 (u8s (leafK n k).1)]
theorem aLm (n:Int) (j:Nat):deckF n (j+1)=deckF n j++[[.arr 32 (u8s (initK n j).1),.arr 32 (u8s (leafK n j).1)]]:=by simp[deckF,List.range_succ]
theorem aQh (n:Int) (j:Nat):(deckF n j).length=j:=by simp[deckF]
def cardF (n:Int) (j:Nat):List (List Fd):=(List.range j).map fun(k:Nat)=>[.arr 32 (u8s (pubH (initK n k)).1),.arr 32 (u8s (pubH (leafK n k)).1)]
theorem aLn (n:Int) (j:Nat):cardF n (j+1)=cardF n j++[[.arr 32 (u8s (pubH (initK n j)).1),.arr 32 (u8s (pubH (leafK n j)).1)]]:=by simp[cardF,List.range_succ]
def PkF (H:Hp) (q:List Fd) (n:Int):Prop:=∃ C c,q=[.arr 32 (u8s (verV (privK n)).1),.one (.slice C 3 c)]∧Sl H 64 C (cardF n 3)
theorem PkF.mono {H H':Hp} {q:List Fd} {n:Int} (h:PkF H q n) (k:H.le H'):PkF H' q n:=by
 obtain⟨C,c,h1,h2⟩:=h
 exact⟨C,c,h1,h2.mono k⟩
theorem Qi {α:Type} {r:List Fd→α→Prop} {q:List Fd} {x:α}:∀ {ps:List (List Fd)} {xs:List α},All2 r ps xs→r q x→All2 r (ps++[q]) (xs++[x])
 | [],[],_,h=>⟨h,trivial⟩
 | _::_,_::_,k,h=>⟨k.1,Qi k.2 h⟩
 | [],_::_,k,_=>k.elim
 | _::_,[],k,_=>k.elim
def rollN (j:Nat):List Int:=(List.range j).map fun(k:Nat)=>(k:Int)+1
theorem aLo (j:Nat):rollN (j+1)=rollN j++[(j:Int)+1]:=by simp[rollN,List.range_succ]
section
variable {H:Hp} {w0 w:World} {L R:List Res} {g:Nat}
theorem aXm (n:Int) (w:World):Calls prog 24 #[.int .i64 n] w fun en w'=>en=.returned (ha (privK n))∧St w [] w':=by
 have hM:=Mem.start (Fz.of w)
 refine Vb ?_
 unfold Lu
 (((refine Bf hM ?_;clear hM;intro _ _ hM;refine Ab trivial ?_;refine Ab ?_ ?_));(focus (simp only[and_true];omega));((refine Az hM ?_;clear hM;intro _ hM;refine Bz hM ?_)))
 exact⟨rfl,hM.st⟩
theorem aXn (n k:Int) (w:World):Calls prog 137 #[.int .i64 n,.int .i64 k] w fun en w'=>en=.returned (ha (initK n k))∧St w [] w':=by
 have hM:=Mem.start (Fz.of w)
 refine Vn ?_
 unfold Mi
 (((refine Bf hM ?_;clear hM;intro _ _ hM;refine Ab trivial ?_;refine Ab trivial ?_;refine Ab ?_ ?_));(focus (simp only[and_true];omega));((refine Az hM ?_;clear hM;intro _ hM;refine Bz hM ?_)))
 exact⟨rfl,hM.st⟩
theorem aXo (n k:Int) (w:World):Calls prog 22 #[.int .i64 n,.int .i64 k] w fun en w'=>en=.returned (ha (leafK n k))∧St w [] w':=by
 have hM:=Mem.start (Fz.of w)
 refine Va ?_
 unfold Lt
 (((refine Bf hM ?_;clear hM;intro _ _ hM;refine Ab trivial ?_;refine Ab trivial ?_;refine Ab ?_ ?_));(focus (simp only[and_true];omega));((refine Az hM ?_;clear hM;intro _ hM;refine Bz hM ?_)))
 exact⟨rfl,hM.st⟩
instance (n:Int):PurC prog 24 [.int .i64 n] True (.agg (u8s (privK n).1).toArray):=⟨fun _ w=>aXm n w⟩
instance (n k:Int):PurC prog 137 [.int .i64 n,.int .i64 k] True (.agg (u8s (initK n k).1).toArray):=⟨fun _ w=>aXn n k w⟩
instance (n k:Int):PurC prog 22 [.int .i64 n,.int .i64 k] True (.agg (u8s (leafK n k).1).toArray):=⟨fun _ w=>aXo n k w⟩
theorem bBr (k:H32) (w:World):Calls prog 71 #[ha k] w fun en w'=>en=.returned (ha (pubH k))∧St w [] w':=by
 have hM:=Mem.start (Fz.of w)
 refine Nx ?_
 unfold Ir
 (((refine Bh hM ?_;clear hM;intro _ _ hM;refine Bf hM ?_;clear hM;intro _ _ hM;refine An hM ?_;refine Bl hM ?_ ?_));(focus (first|exact trivial|assumption|omega));((clear hM;intro _ hM)))
 refine Ab (by rw[strOfNums_size,k.2.1];decide) ?_
 have h:=fun w=>Vw (spub++strOfNums k.1) w (by rw[ByteArray.size_append,strOfNums_size,k.2.1];decide)
 rw[Xl,Iu]at h
 refine Bn hM (h _) (fun w2 hM=>?_)
 have e:hv (shaSum (ints spub++k.1))=.agg (u8s (pubH k).1).toArray:=rfl
 rw[e]
 (((refine Az hM ?_;clear hM;intro _ hM;refine Bz hM ?_)))
 exact⟨rfl,hM.st⟩
theorem aXp (n:Int) (hf:Fz H w):Calls prog 70 #[.int .i64 n] w (Outp H w (fun H' v=>∃ A c,v=.slice A 3 c∧Sl H' 64 A (deckF n 3))):=by
 have hM:=Mem.start hf
 refine Vh ?_
 unfold Mb
 refine⟨fun x v w'=>∃ (k:Nat) (A:Option Addr) (c:Nat),v=.int .i64 k∧k≤3∧x=.slice A k c∧Mem H w [rowR 116 64 A k c (deckF n k)] w',fun _ v _=>match v with | .int _ k=>3 - k.toNat|_=>0,⟨0,none,0,rfl,by omega,rfl,hM.row0 116 64⟩,?_⟩
 clear hM
 rintro x v u w2 ⟨k,A,c,rfl,hk,rfl,hM⟩
 (((refine Aw trivial ?_ ?_)))
 ·intro hlt
  (((refine Am ?_;refine Bl hM ?_ ?_));(focus (first|exact trivial|assumption|omega));((clear hM;intro _ hM;refine Bl hM ?_ ?_));(focus (first|exact trivial|assumption|omega));((clear hM;intro _ hM;refine Ab trivial ?_;refine Bx hM ?_ ?_ ?_));(focus rfl);(focus (constructor <;> simp));((clear hM;intro _ _ hM;refine Co hM ?_ ?_));(focus omega);((clear hM;intro _ _ _ hM;refine Ab ?_ ?_));(focus omega))
  rename_i A2 c2 _
  rw[← aLm]at hM
  exact⟨⟨k+1,A2,c2,rfl,by omega,rfl,hM.sub⟩,by dsimp only;omega⟩
 ·intro hge
  obtain rfl:k=3:=by omega
  (((refine Aj ?_)))
  obtain⟨H2,l2,hM2,hK,-⟩:=hM.fz0
  exact hM2.out l2 ⟨A,c,rfl,hK⟩
theorem aNh (hf:Fz H w):Calls prog 21 #[] w (Outp H w (fun H' v=>∃ A c ps,v=.slice A 6 c∧Sl H' 33 A ps∧All2 (PkF H') ps (rollN 6))):=by
 have hM:=Mem.start hf
 refine Uz ?_
 unfold Ls
 refine⟨fun x v w'=>∃ (k:Nat) (H2:Hp) (A:Option Addr) (c:Nat) (ps:List (List Fd)),v=.int .i64 ((k:Int)+1)∧k≤6∧x=.slice A k c∧Le w H H2∧All2 (PkF H2) ps (rollN k)∧Mem H2 w [rowR 113 33 A k c ps] w',fun _ v _=>match v with | .int _ k=>8 - k.toNat|_=>0,⟨0,H,none,0,[],rfl,by omega,rfl,Le.refl _ _,trivial,hM.row0 113 33⟩,?_⟩
 clear hM
 rintro x v u w2 ⟨k,H2,A,c,ps,rfl,hk,rfl,l2,hps,hM⟩
 (((refine Aw trivial ?_ ?_)))
 ·intro hlt
  (((refine Am ?_;refine Bl hM ?_ ?_));(focus (first|exact trivial|assumption|omega));((clear hM;intro _ hM;refine Bl hM ?_ ?_));(focus (first|exact trivial|assumption|omega));((clear hM;intro _ hM;refine Ab trivial ?_;refine Bf hM ?_;clear hM;intro _ _ hM;refine Az hM ?_;clear hM;intro _ hM)))
  rename_i g3 _ _
  refine Gq hM (aXp ((k:Int)+1) hM.fz) ?_
  clear hM
  rintro H3 v w5 l3 hM ⟨D,dc,rfl,hD⟩
  have hM9:Mem H3 w [fb g3 113 [.arr 32 (u8s (verV (privK ((k:Int)+1))).1),.one (.slice none 0 0)],rowR 116 64 none 0 0 [],rowR 113 33 A k c ps] _:=(hM.row0 116 64).same
  refine⟨fun v w'=>∃ (j:Nat) (B:Option Addr) (b:Nat),v=.int .i64 j∧j≤3∧Mem H3 w [fb g3 113 [.arr 32 (u8s (verV (privK ((k:Int)+1))).1),.one (.slice B j b)],rowR 116 64 B j b (cardF ((k:Int)+1) j),rowR 113 33 A k c ps] w',fun v _=>match v with | .int _ k=>3 - k.toNat|_=>0,⟨0,none,0,rfl,by omega,hM9⟩,?_⟩
  clear hM hM9
  rintro v u2 w6 ⟨j,B,b,rfl,hj,hM⟩
  have hDl:(deckF ((k:Int)+1) 3).length=3:=aQh _ _
  (((refine Ab trivial ?_)))
  (((refine Aw trivial ?_ ?_)))
  ·intro hlt2
   have hdj:(deckF ((k:Int)+1) 3)[j]?=some [.arr 32 (u8s (initK ((k:Int)+1) j).1),.arr 32 (u8s (leafK ((k:Int)+1) j).1)]:=by
    have:j<3:=by omega
    simp[deckF,List.getElem?_map,List.getElem?_range this]
   obtain⟨db,dd,rfl⟩:=hD.some_ (by rw[hDl];omega)
   have hM0:=hM
   (((refine Am ?_;refine Ap trivial ?_;refine Ba hM ?_;refine Ap ?_ ?_));(focus omega);((refine Ap trivial ?_)))
   refine Iq hM0 hD hdj ?_
   (((refine Bs hM ?_ (fun _ _ hM=>?_)));(focus (first|exact trivial|assumption|omega));((refine Ap ?_ ?_));(focus omega);((refine Ap trivial ?_)))
   refine Iq hM0 hD hdj ?_
   (((refine Bs hM ?_ (fun _ _ hM=>?_)));(focus (first|exact trivial|assumption|omega));((refine Ap trivial ?_;refine Cf hM ?_ ?_ ?_));(focus rfl);(focus (constructor <;> simp));((clear hM;intro _ _ hM;refine Px hM ?_ ?_));(focus omega);((clear hM;intro _ _ _ hM;refine Ap trivial ?_;refine Ca hM ?_;clear hM;intro _ hM;refine Bc hM ?_;clear hM;intro _ hM;refine Ab ?_ ?_));(focus omega))
   rename_i B2 b2 _ _ _
   rw[← aLn]at hM
   exact⟨⟨j+1,B2,b2,rfl,by omega,hM.sub⟩,by dsimp only;omega⟩
  ·intro hge2
   obtain rfl:j=3:=by omega
   (((refine Aj ?_;refine An hM ?_;refine Bx hM ?_ ?_ ?_));(focus rfl);(focus (constructor <;> simp));((clear hM;intro _ _ hM;refine Co hM ?_ ?_));(focus omega);((clear hM;intro _ _ _ hM;refine Ab ?_ ?_));(focus omega))
   rename_i A2 c2 _
   obtain⟨H4,l4,hM4,hB,-⟩:=hM.fz1 B
   refine⟨⟨k+1,H4,A2,c2,ps++[[.arr 32 (u8s (verV (privK ((k:Int)+1))).1),.one (.slice B 3 b)]],rfl,by omega,rfl,l2.trans (l3.trans l4),?_,hM4.sub⟩,by dsimp only;omega⟩
   rw[aLo]
   exact Qi (hps.mono fun _ _ h=>h.mono (l3.trans l4).le) ⟨B,b,rfl,hB⟩
 ·intro hge
  obtain rfl:k=6:=by omega
  (((refine Aj ?_)))
  obtain⟨H3,l3,hM3,hK,-⟩:=hM.fz0
  exact hM3.out (l2.trans l3) ⟨A,c,ps,rfl,hK,hps.mono fun _ _ h=>h.mono l3.le⟩
end
end Go.Proofs.YtgbenhmdamnmcaaGreat
namespace Go.Proofs.YtgbenhmdamnmcaaGreat.Cmt
open Go.Proofs.Tryz
open Go.RowKit Go.Lib Go.Proofs.YtgbenhmdamnmcaaGreat.Chg
def CuF (H:Hp) (v:Value) (s:RdS):Prop:=∃ P pc Q qc W wc qs,v=.tuple #[cv P pc Q qc W wc (cmU s).1,.int .i64 (cmU s).2]∧CmF H P Q W qs (cmU s).1
theorem cnilF (H:Hp):CmF H none none none [] cnil:=⟨Sl.nil _ _ _,Sl.nil _ _ _,trivial,Sl.nil _ _ _,by simp[cnil,maxLen],by simp[cnil,maxLen],by simp[cnil,maxLen],(show(ByteArray.mk #[]).size≤maxLen by decide)⟩
theorem CuF.bad {H:Hp} {s:RdS} {e:Int} (h:cmU s=(cnil,e)):CuF H (.tuple #[cv none 0 none 0 none 0 cnil,.int .i64 e]) s:=
 ⟨none,0,none,0,none,0,[],by rw[h],by rw[h];exact cnilF H⟩
abbrev cf0 (s:RdS) (P:Option Addr) (pn pc:Nat) (lf ab:H32) (Q:Option Addr) (qn qc:Nat) (inf:ByteArray) (W:Option Addr) (wn wc:Nat) (tg sg:H32):List Fd:=[.arr 32 (u8s (u1 s).1.1),.one (.int .i64 (u2 s).1),.one (.int .i64 (u3 s).1),.one (.slice P pn pc),.arr 32 (u8s lf.1),.arr 32 (u8s ab.1),.one (.slice Q qn qc),.one (.string inf),.one (.slice W wn wc),.arr 32 (u8s tg.1),.arr 32 (u8s sg.1)]
abbrev es1:ByteArray:=ByteArray.mk #[]
theorem txp:0≤(1024:Int)∧(1024:Int)≤65536:=by omega
theorem aNi {s:RdS} (h:(txS 1024 s).2.e≠0):stP s=(p0,(txS 1024 s).2):=by unfold stP;rw[if_pos h]
theorem aNj {s:RdS} (h:(txS 1024 s).2.e=0) (h2:(prpU (txR 1024 s txp)).2≠0):(stP s).2.e=(prpU (txR 1024 s txp)).2:=by unfold stP;rw[if_neg (by simp[h]),if_pos h2]
theorem aYp {s:RdS} (h:(txS 1024 s).2.e=0) (h2:(prpU (txR 1024 s txp)).2=0):stP s=((prpU (txR 1024 s txp)).1,(txS 1024 s).2):=by unfold stP;rw[if_neg (by simp[h]),if_neg (by simp[h2])]
theorem Yl {α:Type} {f:RdS→α × RdS} {i k n:Nat} {st:RdS} (hk:i+k=n) (hex:¬((i:Int)<n∧st.e=0)):rdL f k st=([],st):=by
 by_cases h:st.e=0
 ·obtain rfl:k=0:=by
   have:¬(i:Int)<n:=fun hi=>hex ⟨hi,h⟩
   omega
  rfl
 ·exact Pm h
theorem bad4 {s st:RdS} {k:Nat} (hu2:(u4 s).2=(rdL stP k (stP st).2).2) (h:(stP st).2.e≠0):cmU s=(cnil,(stP st).2.e):=by
 have e:(u4 s).2=(stP st).2:=by rw[hu2,Pm h]
 have h4:(u4 s).2.e≠0:=by rw[e];exact h
 exact Ui (by rw[stop4 h4,e]) h
section
variable {H:Hp} {w0 w:World} {L R:List Res} {s:RdS}
theorem rguard {RR:Ending→World→Prop} {g:Nat} {i n:Int} {J T:World→Prop} (hM:Mem H w0 (rrO g s::L) w) (h1:i<n∧s.e=0→∀ w',Mem H w0 (rrO g s::L) w'→J w') (h2:¬(i<n∧s.e=0)→∀ w',Mem H w0 (rrO g s::L) w'→T w'):
  m RR (Af .lss 3 false (.int .i64 i) (.int .i64 n)) w fun x34 w18=>
  mguard x34 true (fun k=>m RR (Bp (.pointer (some ⟨g,0,none⟩))) w18 k) w18 fun x36 w19=>
  mguard x34 true (fun k=>m RR (Ao x36) w19 k) w19 fun x37 w20=>
  mguard x34 true (fun k=>m RR (Aa 105 x37 1) w20 k) w20 fun x38 w21=>
  mguard x34 true (fun k=>m RR (Ad 3 x38) w21 k) w21 fun x39 w22=>
  mguard x34 true (fun k=>m RR (Af .eql 3 true x39 (.int .i64 0)) w22 k) w22 fun x40 w23=>
  m RR (Bd x34 x40 (.bool false)) w23 fun x41 w24=>
  mif x41 (J w24) (T w24):=by
 by_cases hi:i<n
 ·by_cases he:s.e=0
  ·(((refine Bt trivial ?_ ?_));(focus (first|assumption|omega|with_reducible rfl|exact fun h=>Bool.noConfusion h));((refine Ae ?_;refine Ab trivial ?_;refine Ae ?_;refine Ab trivial ?_;refine Ae ?_;refine Ab trivial ?_;refine Ae ?_;refine An hM ?_;refine Ae ?_;refine Bt trivial ?_ ?_));(focus (first|assumption|omega|with_reducible rfl|exact fun h=>Bool.noConfusion h));((refine Ab trivial ?_;refine Am ?_)))
   exact h1 ⟨hi,he⟩ _ hM
  ·(((refine Bt trivial ?_ ?_));(focus (first|assumption|omega|with_reducible rfl|exact fun h=>Bool.noConfusion h));((refine Ae ?_;refine Ab trivial ?_;refine Ae ?_;refine Ab trivial ?_;refine Ae ?_;refine Ab trivial ?_;refine Ae ?_;refine An hM ?_;refine Ae ?_;refine Bm trivial ?_ ?_));(focus (first|assumption|omega|with_reducible rfl|exact fun h=>Bool.noConfusion h));((refine Ab trivial ?_;refine Aj ?_)))
   exact h2 (fun h=>he h.2) _ hM
 ·(((refine Bm trivial ?_ ?_));(focus (first|assumption|omega|with_reducible rfl|exact fun h=>Bool.noConfusion h));(((iterate 5 refine Bv ?_);refine Ab trivial ?_;refine Aj ?_)))
  exact h2 (fun h=>hi h.1) _ hM
theorem aXq (he:s.e=0) (hf:Fz H w):Calls prog 19 #[.string (strOfNums s.l)] w (Outp H w (fun H' v=>CuF H' v s)):=by
 have hM:=Mem.start hf
 refine Qj ?_
 unfold Iv
 (((refine Bf hM ?_;clear hM;intro _ _ hM;refine Ab trivial ?_;refine Bh hM ?_;clear hM;intro _ _ hM;refine Ab trivial ?_;refine Bf hM ?_;clear hM;intro _ _ hM;refine Az hM ?_;clear hM;intro _ hM)))
 rename_i g2 _ g1 _ g5 _ w1
 replace hM:Mem H w [fb g5 28 (cfd none 0 none 0 none 0 cnil),rrO g1 s,fb g2 28 (cfd none 0 none 0 none 0 cnil)] w1:=by
  unfold rrO rdC
  rw[he]
  exact hM
 have hr1:=Fo (most:=16) (s:=(u3 s).2) (by omega)
 obtain⟨n1,hn1⟩:∃ n:Nat,(nmS 16 (u3 s).2).1=n:=Int.eq_ofNat_of_zero_le hr1.1
 rw[hn1]at hr1
 (((refine Bu hM ?_ ?_));(focus (first|exact trivial|assumption|omega));((clear hM;intro _ hM;refine Ab trivial ?_;refine Az hM ?_;clear hM;intro _ hM;refine Bu hM ?_ ?_));(focus (first|exact trivial|assumption|omega));((clear hM;intro _ hM;refine Ab trivial ?_;refine Az hM ?_;clear hM;intro _ hM;refine Bu hM ?_ ?_));(focus (first|exact trivial|assumption|omega));((clear hM;intro _ hM;refine Ab trivial ?_;refine Az hM ?_;clear hM;intro _ hM;refine Bu hM ?_ ?_));(focus (first|exact trivial|assumption|omega));((clear hM;intro _ hM)))
 have hn1':(nmS 16 (nmS 64 (nmS 4611686018427387903 (hsS s).snd).snd).snd).1=n1:=hn1
 rw[hn1']
 clear hn1'
 have hM0:Mem H w [rrO g1 (nmS 16 (u3 s).2).2,fb g5 28 (cf0 s none 0 0 hzero hzero none 0 0 es1 none 0 0 hzero hzero),fb g2 28 (cfd none 0 none 0 none 0 cnil)] _:=hM.perm (.swap ..)
 have hM9:Mem H w [rrO g1 (nmS 16 (u3 s).2).2,fb g5 28 (cf0 s none 0 0 hzero hzero none 0 0 es1 none 0 0 hzero hzero),rowR 75 101 none 0 0 [],fb g2 28 (cfd none 0 none 0 none 0 cnil)] _:=(hM0.row0 75 101).same
 clear hM hM0
 refine⟨fun v w'=>∃ (i k:Nat) (acc:List Prp) (st:RdS) (P:Option Addr) (pc:Nat),v=.int .i64 i∧acc.length=i∧i+k=n1∧(u4 s).2=(rdL stP k st).2∧(u4 s).1=acc++(rdL stP k st).1∧Mem H w [rrO g1 st,fb g5 28 (cf0 s P i pc hzero hzero none 0 0 es1 none 0 0 hzero hzero),rowR 75 101 P i pc (acc.map Prp.fds),fb g2 28 (cfd none 0 none 0 none 0 cnil)] w',fun v _=>match v with | .int _ i=>n1 - i.toNat|_=>0,⟨0,n1,[],_,none,0,rfl,rfl,by simp,by unfold u4 cnt;rw[hn1];rfl,by unfold u4 cnt;rw[hn1];rfl,hM9⟩,?_⟩
 clear hM9
 rintro v u w2 ⟨i,k,acc,st,P,pc,rfl,hai,hk,hu2,hu1,hM⟩
 refine⟨fun w'=>((i:Int)<n1∧st.e=0)∧hM.now w',rguard hM (fun h w' hM=>⟨h,hM⟩) (fun hex w3 hM=>?_),?_⟩
 ·rw[Yl hk hex]at hu1 hu2
  dsimp only at hu1 hu2
  rw[List.append_nil]at hu1
  clear hex
  subst hu1 hu2
  obtain⟨H1,l1,hM1,hP,-⟩:=hM.fz1 P
  clear hM
  have hM:Mem H1 w [rrO g1 (u4 s).2,fb g5 28 (cf0 s P i pc hzero hzero none 0 0 es1 none 0 0 hzero hzero),fb g2 28 (cfd none 0 none 0 none 0 cnil)] w3:=hM1
  clear hM1
  have hr2:=Fo (most:=64) (s:=(u6 s).2) (by omega)
  obtain⟨n2,hn2⟩:∃ n:Nat,(nmS 64 (u6 s).2).1=n:=Int.eq_ofNat_of_zero_le hr2.1
  rw[hn2]at hr2
  (((refine Bu hM ?_ ?_));(focus (first|exact trivial|assumption|omega));((clear hM;intro _ hM;refine Ab trivial ?_;refine Az hM ?_;clear hM;intro _ hM;refine Bu hM ?_ ?_));(focus (first|exact trivial|assumption|omega));((clear hM;intro _ hM;refine Ab trivial ?_;refine Az hM ?_;clear hM;intro _ hM;refine Bu hM ?_ ?_));(focus (first|exact trivial|assumption|omega));((clear hM;intro _ hM)))
  have hn2':(nmS 64 (hsS (hsS (u4 s).2).2).2).1=n2:=hn2
  rw[hn2']
  clear hn2'
  have hM0:Mem H1 w [rrO g1 (nmS 64 (u6 s).2).2,fb g5 28 (cf0 s P i pc (u5 s).1 (u6 s).1 none 0 0 es1 none 0 0 hzero hzero),fb g2 28 (cfd none 0 none 0 none 0 cnil)] _:=hM
  have hM9:Mem H1 w [rrO g1 (nmS 64 (u6 s).2).2,fb g5 28 (cf0 s P i pc (u5 s).1 (u6 s).1 none 0 0 es1 none 0 0 hzero hzero),rowR 43 33 none 0 0 [],fb g2 28 (cfd none 0 none 0 none 0 cnil)] _:=(hM0.row0 43 33).same
  clear hM hM0
  refine⟨fun v w'=>∃ (j k:Nat) (acc:List Rn) (qs:List (List Fd)) (st:RdS) (Hc:Hp) (Q:Option Addr) (qc:Nat),v=.int .i64 j∧acc.length=j∧j+k=n2∧(u7 s).2=(rdL stR k st).2∧(u7 s).1=acc++(rdL stR k st).1∧Le w H1 Hc∧All2 (RnF Hc) qs acc∧Mem Hc w [rrO g1 st,fb g5 28 (cf0 s P i pc (u5 s).1 (u6 s).1 Q j qc es1 none 0 0 hzero hzero),rowR 43 33 Q j qc qs,fb g2 28 (cfd none 0 none 0 none 0 cnil)] w',fun v _=>match v with | .int _ i=>n2 - i.toNat|_=>0,⟨0,n2,[],[],_,H1,none,0,rfl,rfl,by simp,by unfold u7 cnt;rw[hn2];rfl,by unfold u7 cnt;rw[hn2];rfl,Le.refl _ _,trivial,hM9⟩,?_⟩
  clear hM9
  rintro v u w4 ⟨j,k2,acc,qs,st,Hc,Q,qc,rfl,haj,hk2,hv2,hv1,lc,hqs,hM⟩
  refine⟨fun w'=>((j:Int)<n2∧st.e=0)∧hM.now w',rguard hM (fun h w' hM=>⟨h,hM⟩) (fun hex w5 hM=>?_),?_⟩
  ·rw[Yl hk2 hex]at hv1 hv2
   dsimp only at hv1 hv2
   rw[List.append_nil]at hv1
   clear hex
   subst hv1 hv2
   obtain⟨H2,l2,hM1,hQ,-⟩:=hM.fz1 Q
   clear hM
   have hM:Mem H2 w [rrO g1 (u7 s).2,fb g5 28 (cf0 s P i pc (u5 s).1 (u6 s).1 Q j qc es1 none 0 0 hzero hzero),fb g2 28 (cfd none 0 none 0 none 0 cnil)] w5:=hM1
   clear hM1
   have hr4:=Fo (most:=16) (s:=(u8 s).2) (by omega)
   obtain⟨n4,hn4⟩:∃ n:Nat,(nmS 16 (u8 s).2).1=n:=Int.eq_ofNat_of_zero_le hr4.1
   rw[hn4]at hr4
   (((refine Bu hM ?_ ?_));(focus (first|exact trivial|assumption|omega));((clear hM;intro _ hM;refine Ab trivial ?_;refine Az hM ?_;clear hM;intro _ hM;refine Bu hM ?_ ?_));(focus (first|exact trivial|assumption|omega));((clear hM;intro _ hM)))
   have hn4':(nmS 16 (txS 65536 (u7 s).2).2).1=n4:=hn4
   rw[hn4']
   clear hn4'
   have hM0:Mem H2 w [rrO g1 (nmS 16 (u8 s).2).2,fb g5 28 (cf0 s P i pc (u5 s).1 (u6 s).1 Q j qc (strOfNums (u8 s).1) none 0 0 hzero hzero),fb g2 28 (cfd none 0 none 0 none 0 cnil)] _:=hM
   have hM9:Mem H2 w [rrO g1 (nmS 16 (u8 s).2).2,fb g5 28 (cf0 s P i pc (u5 s).1 (u6 s).1 Q j qc (strOfNums (u8 s).1) none 0 0 hzero hzero),rowR 45 3 none 0 0 [],fb g2 28 (cfd none 0 none 0 none 0 cnil)] _:=(hM0.row0 45 3).same
   clear hM hM0
   refine⟨fun v w'=>∃ (y k:Nat) (acc:List Wl) (st:RdS) (W:Option Addr) (wc:Nat),v=.int .i64 y∧acc.length=y∧y+k=n4∧(u9 s).2=(rdL stL k st).2∧(u9 s).1=acc++(rdL stL k st).1∧Mem H2 w [rrO g1 st,fb g5 28 (cf0 s P i pc (u5 s).1 (u6 s).1 Q j qc (strOfNums (u8 s).1) W y wc hzero hzero),rowR 45 3 W y wc (acc.map Wl.fds),fb g2 28 (cfd none 0 none 0 none 0 cnil)] w',fun v _=>match v with | .int _ i=>n4 - i.toNat|_=>0,⟨0,n4,[],_,none,0,rfl,rfl,by simp,by unfold u9 cnt;rw[hn4];rfl,by unfold u9 cnt;rw[hn4];rfl,hM9⟩,?_⟩
   clear hM9
   rintro v u w6 ⟨y,k4,acc,st,W,wc,rfl,hay,hk4,hy2,hy1,hM⟩
   refine⟨fun w'=>((y:Int)<n4∧st.e=0)∧hM.now w',rguard hM (fun h w' hM=>⟨h,hM⟩) (fun hex w7 hM=>?_),?_⟩
   ·rw[Yl hk4 hex]at hy1 hy2
    dsimp only at hy1 hy2
    rw[List.append_nil]at hy1
    clear hex
    subst hy1 hy2
    obtain⟨H3,l3,hM1,hW,-⟩:=hM.fz1 W
    clear hM
    have hM:Mem H3 w [rrO g1 (u9 s).2,fb g5 28 (cf0 s P i pc (u5 s).1 (u6 s).1 Q j qc (strOfNums (u8 s).1) W y wc hzero hzero),fb g2 28 (cfd none 0 none 0 none 0 cnil)] w7:=hM1
    clear hM1
    (((refine Bu hM ?_ ?_));(focus (first|exact trivial|assumption|omega));((clear hM;intro _ hM;refine Ab trivial ?_;refine Az hM ?_;clear hM;intro _ hM;refine Bu hM ?_ ?_));(focus (first|exact trivial|assumption|omega));((clear hM;intro _ hM;refine Ab trivial ?_;refine Az hM ?_;clear hM;intro _ hM;refine Bu hM ?_ ?_));(focus (first|exact trivial|assumption|omega));((clear hM;intro _ hM)))
    have hM0:Mem H3 w [rrO g1 (u11 s).2,fb g5 28 (cf0 s P i pc (u5 s).1 (u6 s).1 Q j qc (strOfNums (u8 s).1) W y wc (u10 s).1 (u11 s).1),fb g2 28 (cfd none 0 none 0 none 0 cnil)] _:=hM
    clear hM
    have hM:=hM0
    clear hM0
    subst hai haj hay
    have hcF:CmF H3 P Q W qs (cmR s):=⟨hP.mono (lc.trans (l2.trans l3)).le,hQ.mono l3.le,hqs.mono fun _ _ h=>RnF.mono h (l2.trans l3).le,hW,by show(u4 s).1.length≤maxLen;simp only[maxLen];omega,by show(u7 s).1.length≤maxLen;simp only[maxLen];omega,by show(u9 s).1.length≤maxLen;simp only[maxLen];omega,by
     have:=aFk (most:=65536) (s:=(u7 s).2) (by omega)
     show(strOfNums (txS 65536 (u7 s).2).1).size≤maxLen
     rw[strOfNums_size]
     simp only[maxLen]
     omega⟩
    have hE:endS (hsS (hsS (u9 s).2).2).2=cmE s:=rfl
    rw[hE]
    by_cases h1:cmE s=0
    ·(((refine Bm trivial ?_ ?_));(focus (first|assumption|omega|with_reducible rfl|exact fun h=>Bool.noConfusion h));((refine Aj ?_;refine An hM ?_)))
     refine Bn hM (Qb (c:=cmR s) hcF hM.fz) (fun w8 hM2=>?_)
     replace hM:=hM2
     clear hM2
     cases h2:(cmR s).right
     ·have hbad:cmU s=(cnil,3):=by unfold cmU;rw[if_neg (by simp[h1]),if_neg (by simp[h2])]
      (((refine Ab trivial ?_;refine Am ?_;refine Ab trivial ?_;refine Az hM ?_;clear hM;intro _ hM;refine Bz hM ?_)))
      exact hM.out (l1.trans (lc.trans (l2.trans l3))) (CuF.bad hbad)
     ·have hgood:cmU s=(cmR s,0):=by unfold cmU;rw[if_neg (by simp[h1]),if_pos h2]
      (((refine Ab trivial ?_;refine Aj ?_;refine An hM ?_;refine Az hM ?_;clear hM;intro _ hM;refine Bz hM ?_)))
      exact hM.out (l1.trans (lc.trans (l2.trans l3))) ⟨P,pc,Q,qc,W,wc,qs,by rw[hgood];rfl,by rw[hgood];exact hcF⟩
    ·have hbad:=Ui rfl h1
     (((refine Bt trivial ?_ ?_));(focus (first|assumption|omega|with_reducible rfl|exact fun h=>Bool.noConfusion h));((refine Am ?_;refine Ab trivial ?_;refine Bu hM ?_ ?_));(focus (first|exact trivial|assumption|omega));((clear hM;intro _ hM;refine Az hM ?_;clear hM;intro _ hM;refine Bz hM ?_)))
     exact hM.out (l1.trans (lc.trans (l2.trans l3))) (CuF.bad hbad)
   rintro ue w7 ⟨⟨hlt,hse⟩,hM2⟩
   replace hM:Mem H2 w _ w7:=hM2
   clear hM2
   obtain⟨k4,rfl⟩:∃ j,k4=j+1:=⟨k4 - 1,by omega⟩
   rw[Hh hse]at hy1 hy2
   dsimp only at hy1 hy2
   (((refine Ab trivial ?_;refine Bf hM ?_;clear hM;intro _ _ hM;refine Az hM ?_;clear hM;intro _ hM;refine Bu hM ?_ ?_));(focus (first|exact trivial|assumption|omega));((clear hM;intro _ hM;refine Ab trivial ?_;refine Az hM ?_;clear hM;intro _ hM;refine Bu hM ?_ ?_));(focus (first|exact trivial|assumption|omega));((clear hM;intro _ hM;refine Ab trivial ?_;refine Az hM ?_;clear hM;intro _ hM;refine Bu hM ?_ ?_));(focus (first|exact trivial|assumption|omega));((clear hM;intro _ hM;refine Ab trivial ?_;refine Az hM ?_;clear hM;intro _ hM;refine Ab trivial ?_;refine An hM ?_;refine An hM ?_;refine Bx hM ?_ ?_ ?_));(focus rfl);(focus (constructor <;> simp));((clear hM;intro _ _ hM;refine Co hM ?_ ?_));(focus omega);((clear hM;intro _ _ _ hM;refine Ab trivial ?_;refine Az hM ?_;clear hM;intro _ hM;refine Ab ?_ ?_));(focus omega))
   rename_i W2 wc2 _ _
   have hM:Mem H2 w (rowR 45 3 W2 (y+1) wc2 (acc.map Wl.fds++[(stL st).1.fds])::_::rrO g1 (stL st).2::fb g5 28 (cf0 s P i pc (u5 s).1 (u6 s).1 Q j qc (strOfNums (u8 s).1) W2 (y+1) wc2 hzero hzero)::_::[]) _:=hM
   rw[show acc.map Wl.fds++[(stL st).1.fds]=(acc++[(stL st).1]).map Wl.fds by rw[List.map_append];rfl]at hM
   exact⟨⟨y+1,k4,acc++[(stL st).1],(stL st).2,W2,wc2,rfl,by simp[hay],by omega,hy2,by rw[hy1];simp,hM.sub⟩,by dsimp only;omega⟩
  rintro ue w5 ⟨⟨hlt,hse⟩,hM2⟩
  replace hM:Mem Hc w _ w5:=hM2
  clear hM2
  obtain⟨k2,rfl⟩:∃ j,k2=j+1:=⟨k2 - 1,by omega⟩
  rw[Hh hse]at hv1 hv2
  dsimp only at hv1 hv2
  have hr3:=Fo (most:=64) (s:=(hsS st).2) (by omega)
  obtain⟨n3,hn3⟩:∃ n:Nat,(nmS 64 (hsS st).2).1=n:=Int.eq_ofNat_of_zero_le hr3.1
  rw[hn3]at hr3
  (((refine Ab trivial ?_;refine Bf hM ?_;clear hM;intro _ _ hM;refine Az hM ?_;clear hM;intro _ hM;refine Bu hM ?_ ?_));(focus (first|exact trivial|assumption|omega));((clear hM;intro _ hM;refine Ab trivial ?_;refine Az hM ?_;clear hM;intro _ hM;refine Bu hM ?_ ?_));(focus (first|exact trivial|assumption|omega));((clear hM;intro _ hM)))
  rw[hn3]
  rename_i g7 _ _ _ _ _
  obtain⟨cw,hcw⟩:∃ cw,cw=cnt 64 stW (hsS st).2:=⟨_,rfl⟩
  have hcr:stR st=(⟨(hsS st).1,cw.1⟩,cw.2):=by rw[hcw];rfl
  rw[hcr]at hv1 hv2
  dsimp only at hv1 hv2
  have hM9:Mem Hc w [rrO g1 (nmS 64 (hsS st).2).2,fb g7 43 [.arr 32 (u8s (hsS st).1.1),.one (.slice none 0 0)],rowR 9 1 none 0 0 [],fb g5 28 (cf0 s P i pc (u5 s).1 (u6 s).1 Q j qc es1 none 0 0 hzero hzero),rowR 43 33 Q j qc qs,fb g2 28 (cfd none 0 none 0 none 0 cnil)] _:=(hM.row0 9 1).same
  clear hM
  refine⟨fun v w'=>∃ (x k:Nat) (aw:List ByteArray) (sw:RdS) (B:Option Addr) (bc:Nat),v=.int .i64 x∧aw.length=x∧x+k=n3∧cw.2=(rdL stW k sw).2∧cw.1=aw++(rdL stW k sw).1∧Mem Hc w [rrO g1 sw,fb g7 43 [.arr 32 (u8s (hsS st).1.1),.one (.slice B x bc)],rowR 9 1 B x bc (aw.map sfd),fb g5 28 (cf0 s P i pc (u5 s).1 (u6 s).1 Q j qc es1 none 0 0 hzero hzero),rowR 43 33 Q j qc qs,fb g2 28 (cfd none 0 none 0 none 0 cnil)] w',fun v _=>match v with | .int _ i=>n3 - i.toNat|_=>0,⟨0,n3,[],_,none,0,rfl,rfl,by simp,by rw[hcw];unfold cnt;rw[hn3];rfl,by rw[hcw];unfold cnt;rw[hn3];rfl,hM9⟩,?_⟩
  clear hM9
  rintro v u w6 ⟨x,k3,aw,sw,B,bc,rfl,hax,hk3,hc2,hc1,hM⟩
  refine⟨fun w'=>((x:Int)<n3∧sw.e=0)∧hM.now w',rguard hM (fun h w' hM=>⟨h,hM⟩) (fun hex w7 hM=>?_),?_⟩
  ·rw[Yl hk3 hex]at hc1 hc2
   dsimp only at hc1 hc2
   rw[List.append_nil]at hc1
   clear hex
   rw[hc1,hc2]at hcr hv1
   rw[hc2]at hv2
   (((refine Ab trivial ?_;refine An hM ?_;refine An hM ?_;refine Bx hM ?_ ?_ ?_));(focus rfl);(focus (constructor <;> simp));((clear hM;intro _ _ hM;refine Co hM ?_ ?_));(focus omega);((clear hM;intro _ _ _ hM;refine Ab trivial ?_;refine Az hM ?_;clear hM;intro _ hM;refine Ab ?_ ?_));(focus omega))
   rename_i Q2 qc2 _ _
   obtain⟨Hd,ld,hMd,hB,-⟩:=hM.fz1 B
   exact⟨⟨j+1,k2,acc++[⟨(hsS st).1,aw⟩],qs++[[.arr 32 (u8s (hsS st).1.1),.one (.slice B x bc)]],sw,Hd,Q2,qc2,rfl,by simp[haj],by omega,hv2,by rw[hv1];simp,lc.trans ld,Qi (hqs.mono fun _ _ h=>RnF.mono h ld.le) ⟨B,bc,by rw[← hax],hB,by simp only[maxLen];omega⟩,hMd.sub⟩,by dsimp only;omega⟩
  rintro ue w7 ⟨⟨hltw,hsw⟩,hM2⟩
  replace hM:Mem Hc w _ w7:=hM2
  clear hM2
  obtain⟨k3,rfl⟩:∃ j,k3=j+1:=⟨k3 - 1,by omega⟩
  rw[Hh hsw]at hc1 hc2
  dsimp only at hc1 hc2
  refine⟨Rl.fz (hadd Hc g7 (fl [Fd.arr 32 (u8s (hsS st).1.1),.one (.slice B x bc)])),?_⟩
  have hF:=hM.fzAdd hM.fz g7
  have hgf:FbF (hadd Hc g7 (fl [Fd.arr 32 (u8s (hsS st).1.1),.one (.slice B x bc)])) g7 [Fd.arr 32 (u8s (hsS st).1.1),.one (.slice B x bc)]:=FbF.add inferInstance
  (((refine Ap trivial ?_));(refine Dj ‹_› ‹_› ?_))
  refine Ic hM (by omega) (fun w8 hM2=>⟨hM2.fzAdd hM2.fz g7,?_⟩)
  clear hF hM
  have hM:Mem Hc w [rrO g1 (txS 1024 sw).2,fb g7 43 [.arr 32 (u8s (hsS st).1.1),.one (.slice B x bc)],rowR 9 1 B x bc (aw.map sfd),fb g5 28 (cf0 s P i pc (u5 s).1 (u6 s).1 Q j qc es1 none 0 0 hzero hzero),rowR 43 33 Q j qc qs,fb g2 28 (cfd none 0 none 0 none 0 cnil)] w8:=hM2
  clear hM2
  skip
  refine dfz hM (fun w9 hM2=>?_)
  refine Bx hM2 rfl (by constructor <;> simp) (fun gr w10 hM3=>⟨hM3.fzAdd hM3.fz g7,?_⟩)
  clear hM hM2
  have hM:=hM3
  clear hM3
  (((refine Px hM ?_ ?_));(focus omega);((clear hM;intro _ _ _ hM;refine Ap trivial ?_;refine Ca hM ?_;clear hM;intro _ hM;refine Bc hM ?_;clear hM;intro _ hM;refine Ab ?_ ?_));(focus omega))
  rename_i B2 bc2 _ _ _
  have hM:Mem Hc w (rowR 9 1 B2 (x+1) bc2 (aw.map sfd++[sfd (stW sw).1])::rrO g1 (stW sw).2::fb g7 43 [.arr 32 (u8s (hsS st).1.1),.one (.slice B2 (x+1) bc2)]::_::_::_::[]) _:=hM
  rw[show aw.map sfd++[sfd (stW sw).1]=(aw++[(stW sw).1]).map sfd by rw[List.map_append];rfl]at hM
  exact⟨⟨x+1,k3,aw++[(stW sw).1],(stW sw).2,B2,bc2,rfl,by simp[hax],by omega,hc2,by rw[hc1];simp,hM.sub⟩,by dsimp only;omega⟩
 rintro ue w3 ⟨⟨hlt,hse⟩,hM2⟩
 replace hM:Mem H w _ w3:=hM2
 clear hM2
 obtain⟨k,rfl⟩:∃ j,k=j+1:=⟨k - 1,by omega⟩
 rw[Hh hse]at hu1 hu2
 dsimp only at hu1 hu2
 (((refine Bu hM ?_ ?_));(focus (first|exact trivial|assumption|omega));((clear hM;intro _ hM;refine Ab trivial ?_;refine Ab trivial ?_;refine An hM ?_)))
 by_cases ht:(txS 1024 st).2.e=0
 ·(((refine Bm trivial ?_ ?_));(focus (first|assumption|omega|with_reducible rfl|exact fun h=>Bool.noConfusion h));((refine Aj ?_)))
  refine Bn hM (aKk (s:=txR 1024 st txp) rfl _) (fun w4 hM2=>?_)
  replace hM:=hM2
  clear hM2
  (((refine Ab trivial ?_;refine Ab trivial ?_;refine Bf hM ?_;clear hM;intro _ _ hM;refine Az hM ?_;clear hM;intro _ hM)))
  by_cases h2:(prpU (txR 1024 st txp)).2=0
  ·rw[aYp ht h2]at hu1 hu2
   generalize (prpU (txR 1024 st txp)).1=p at *
   (((refine Bm trivial ?_ ?_));(focus (first|assumption|omega|with_reducible rfl|exact fun h=>Bool.noConfusion h));((refine Aj ?_;refine Ab trivial ?_;refine An hM ?_;refine An hM ?_;refine Bx hM ?_ ?_ ?_));(focus rfl);(focus (constructor <;> simp));((clear hM;intro _ _ hM;refine Co hM ?_ ?_));(focus omega);((clear hM;intro _ _ _ hM;refine Ab trivial ?_;refine Az hM ?_;clear hM;intro _ hM;refine Ab ?_ ?_));(focus omega))
   rename_i P2 pc2 _ _
   have hM:Mem H w (rowR 75 101 P2 (i+1) pc2 (acc.map Prp.fds++[p.fds])::_::rrO g1 (txS 1024 st).2::fb g5 28 (cf0 s P2 (i+1) pc2 hzero hzero none 0 0 es1 none 0 0 hzero hzero)::fb g2 28 (cfd none 0 none 0 none 0 cnil)::[]) _:=hM
   rw[show acc.map Prp.fds++[p.fds]=(acc++[p]).map Prp.fds by rw[List.map_append];rfl]at hM
   exact⟨⟨i+1,k,acc++[p],(txS 1024 st).2,P2,pc2,rfl,by simp[hai],by omega,hu2,by rw[hu1];simp,hM.sub⟩,by dsimp only;omega⟩
  ·have hbad:=bad4 hu2 (by rw[aNj ht h2];exact h2)
   rw[aNj ht h2]at hbad
   (((refine Bt trivial ?_ ?_));(focus (first|assumption|omega|with_reducible rfl|exact fun h=>Bool.noConfusion h));((refine Am ?_;refine Ab trivial ?_;refine Az hM ?_;clear hM;intro _ hM;refine Bz hM ?_)))
   exact hM.out (Le.refl _ _) (CuF.bad hbad)
 ·have hbad:=bad4 hu2 (by rw[aNi ht];exact ht)
  rw[aNi ht]at hbad
  (((refine Bt trivial ?_ ?_));(focus (first|assumption|omega|with_reducible rfl|exact fun h=>Bool.noConfusion h));((refine Am ?_)))
  have hne:¬g1=g2:=hM.neB
  refine⟨Rl.only fun b=>b=g2,?_⟩
  ((((iterate 3 refine Ap trivial ?_))))
  refine Zi hM hne ?_
  refine aAp hM (fun w5 hM=>?_)
  (((refine Bc hM ?_;clear hM;intro _ hM;refine Bz hM ?_)))
  exact hM.out (Le.refl _ _) (CuF.bad hbad)
end
end Go.Proofs.YtgbenhmdamnmcaaGreat.Cmt
namespace Go.Proofs.YtgbenhmdamnmcaaGreat.Cmt
open Go.Proofs.Tryz
open Go.RowKit Go.Lib Go.Proofs.YtgbenhmdamnmcaaGreat.Chg
section
variable {H:Hp} {w0 w:World} {L R:List Res} {A B P Q W P2 Q2 W2:Option Addr} {a b n m pc qc wc pc2 qc2 wc2:Nat} {qs qs2:List (List Fd)} {c:Cm}
theorem aUr (l:List Chg.Prp) (hl:l.length≤maxLen) (h1:Sl H 101 A (l.map Chg.Prp.fds)) (h2:Sl H 101 B (l.map Chg.Prp.fds)) (hf:Fz H w):
  Calls prog 55 #[.slice A l.length a,.slice B l.length b] w fun en w'=>en=.returned (.bool true)∧St w [] w':=by
 have hM:=Mem.start hf
 simp only[maxLen]at hl
 refine Vg ?_
 unfold Ly
 (((refine Ab trivial ?_;refine Ab trivial ?_;refine Bm trivial ?_ ?_));(focus (first|assumption|omega|with_reducible rfl|exact fun h=>Bool.noConfusion h));((refine Aj ?_)))
 refine⟨fun v w'=>∃ i:Nat,v=.int .i64 i∧i≤l.length∧hM.now w',fun v _=>match v with | .int _ k=>l.length - k.toNat|_=>0,⟨0,rfl,by omega,hM⟩,?_⟩
 rintro v u w2 ⟨i,rfl,hi,hM⟩
 (((refine Ab trivial ?_)))
 (((refine Aw trivial ?_ ?_)))
 ·intro hlt
  have hlt':i<l.length:=by omega
  (((refine Am ?_));(refine Hk ‹_› ?_ ?_ ?_);(focus (simp only[List.length_map];omega));(focus (simp only[List.length_map];first|done|omega));((intro _ _ hA));(cases hA);(refine Iw hM ‹_› (By ?_) ?_);(focus omega);(refine Hk ‹_› ?_ ?_ ?_);(focus (simp only[List.length_map];omega));(focus (simp only[List.length_map];first|done|omega));((intro _ _ hA));(cases hA);(refine Iw hM ‹_› (By ?_) ?_);(focus omega))
  refine Ap trivial ?_
  simp only[eq_self,and_self,not_true_eq_false,decide_false]
  (((refine Bc hM ?_;clear hM;intro _ hM;refine Aj ?_;refine Ab ?_ ?_));(focus omega))
  exact⟨⟨i+1,by rw[Value.int.injEq];refine⟨rfl,?_⟩;push_cast;rfl,by omega,hM⟩,by simp only;omega⟩
 ·intro hge
  (((refine Aj ?_)))
  exact⟨rfl,hM.st⟩
theorem aUs (rs:List Rn) (hl:rs.length≤maxLen) (h1:Sl H 33 A qs) (k1:All2 (RnF H) qs rs) (h2:Sl H 33 B qs2) (k2:All2 (RnF H) qs2 rs) (hf:Fz H w):
  Calls prog 56 #[.slice A rs.length a,.slice B rs.length b] w fun en w'=>en=.returned (.bool true)∧St w [] w':=by
 have hM:=Mem.start hf
 have n1:=k1.len
 have n2:=k2.len
 simp only[maxLen]at hl
 refine Od ?_
 unfold Hi
 (((refine Ab trivial ?_;refine Ab trivial ?_;refine Bm trivial ?_ ?_));(focus (first|assumption|omega|with_reducible rfl|exact fun h=>Bool.noConfusion h));((refine Aj ?_)))
 refine⟨fun v w'=>∃ i:Nat,v=.int .i64 i∧i≤rs.length∧hM.now w',fun v _=>match v with | .int _ k=>rs.length - k.toNat|_=>0,⟨0,rfl,by omega,hM⟩,?_⟩
 rintro v u w2 ⟨i,rfl,hi,hM⟩
 replace hM:Mem H w [] w2:=hM
 (((refine Ab trivial ?_)))
 (((refine Aw trivial ?_ ?_)))
 ·intro hlt
  have hlt':i<rs.length:=by omega
  obtain⟨q,hqi,C,cc,rfl,hC,hCl⟩:=k1.at_ hlt'
  obtain⟨q2,hqi2,C2,cc2,rfl,hC2,-⟩:=k2.at_ hlt'
  have hCl':rs[i].wraps.length≤9223372036854775807:=hCl
  obtain⟨bb,oo,rfl⟩:=h1.some_ (by omega)
  obtain⟨bb2,oo2,rfl⟩:=h2.some_ (by omega)
  (((refine Am ?_)))
  refine⟨fun x w'=>x=.bool false∧hM.now w',?_,?_⟩
  ·(((refine Ap ?_ ?_));(focus omega);((refine Ap trivial ?_)))
   refine Iq hM h1 hqi ?_
   (((refine Ap ?_ ?_));(focus omega);((refine Ap trivial ?_)))
   refine Iq hM h2 hqi2 ?_
   skip
   refine Wp trivial (fun h=>h rfl) ?_
   (((refine Bg ?_;refine Ap trivial ?_;refine Bg ?_;refine Ap trivial ?_;refine Bg ?_;refine Ap ?_ ?_));(focus omega);((refine Bg ?_;refine Ap trivial ?_;refine Bg ?_)))
   refine Iq hM h1 hqi ?_
   (((refine Bg ?_;refine Ap trivial ?_;refine Bg ?_;refine Ap trivial ?_;refine Bg ?_;refine Ap trivial ?_;refine Bg ?_;refine Ap ?_ ?_));(focus omega);((refine Bg ?_;refine Ap trivial ?_;refine Bg ?_)))
   refine Iq hM h2 hqi2 ?_
   (((refine Bg ?_;refine Ap trivial ?_;refine Bg ?_;refine Wp trivial ?_ ?_));(focus (first|assumption|omega|with_reducible rfl|exact fun h=>Bool.noConfusion h));((refine Ap trivial ?_;refine Bc hM (fun _ hM2=>?_);replace hM:=hM2;clear hM2)))
   exact⟨rfl,hM⟩
  rintro x u w3 ⟨rfl,hM2⟩
  replace hM:=hM2
  clear hM2
  (((refine Aj ?_)))
  refine⟨fun v w'=>∃ j:Nat,v=.int .i64 j∧j≤rs[i].wraps.length∧hM.now w',fun v _=>match v with | .int _ k=>rs[i].wraps.length - k.toNat|_=>0,⟨0,rfl,by omega,hM⟩,?_⟩
  rintro v u w4 ⟨j,rfl,hj,hM⟩
  replace hM:Mem H w [] w4:=hM
  (((refine Ab ?_ ?_));(focus omega);((refine Ab trivial ?_)))
  refine Ip hM h1 hqi ?_
  (((refine Ab trivial ?_)))
  (((refine Aw trivial ?_ ?_)))
  ·intro hlt3
   have hlt3':j<rs[i].wraps.length:=by omega
   (((refine Am ?_;refine Ap ?_ ?_));(focus omega);((refine Ap trivial ?_)))
   refine Iq hM h1 hqi ?_
   ((refine Hk ‹_› ?_ ?_ ?_);(focus (simp only[List.length_map];omega));(focus (simp only[List.length_map];first|done|omega));((intro _ _ hA));(cases hA);(refine Iw hM ‹_› (By ?_) ?_);(focus omega);((refine Ap ?_ ?_));(focus omega);((refine Ap trivial ?_)))
   refine Iq hM h2 hqi2 ?_
   ((refine Hk ‹_› ?_ ?_ ?_);(focus (simp only[List.length_map];omega));(focus (simp only[List.length_map];first|done|omega));((intro _ _ hA));(cases hA);(refine Iw hM ‹_› (By ?_) ?_);(focus omega))
   refine Wp trivial (fun h=>h rfl) ?_
   (((refine Bc hM ?_;clear hM;intro _ hM;refine Aj ?_;refine Ab ?_ ?_));(focus omega))
   exact⟨⟨j+1,by rw[Value.int.injEq];refine⟨rfl,?_⟩;push_cast;rfl,by omega,hM⟩,by simp only;omega⟩
  ·intro hge3
   (((refine Aj ?_;refine Ab ?_ ?_));(focus omega))
   exact⟨⟨i+1,by rw[Value.int.injEq];refine⟨rfl,?_⟩;push_cast;rfl,by omega,hM⟩,by simp only;omega⟩
 ·intro hge
  (((refine Aj ?_)))
  exact⟨rfl,hM.st⟩
theorem aXr (h1:CmF H P Q W qs c) (h2:CmF H P2 Q2 W2 qs2 c) (hf:Fz H w):Calls prog 18 #[cv P pc Q qc W wc c,cv P2 pc2 Q2 qc2 W2 wc2 c] w fun en w'=>en=.returned (.bool true)∧St w [] w':=by
 have hM:=Mem.start hf
 have hwl:c.wels.length≤9223372036854775807:=by have:=h1.len.2.2.1;simp only[maxLen]at this;omega
 refine Uy ?_
 unfold Lr
 (((refine Bh hM ?_;clear hM;intro _ _ hM;refine Bh hM ?_;clear hM;intro _ _ hM)))
 rename_i g1 _ g2 _
 refine⟨fun x w'=>x=.bool false∧hM.now w',?_,?_⟩
 ·(((refine Ab trivial ?_;refine An hM ?_;refine Ab trivial ?_;refine An hM ?_)))
  refine Bm trivial (fun h=>h rfl) ?_
  (((refine Ae ?_;refine Ab trivial ?_;refine Ae ?_;refine An hM ?_;refine Ae ?_;refine Ab trivial ?_;refine Ae ?_;refine An hM ?_;refine Ae ?_;refine Bm trivial ?_ ?_));(focus (first|assumption|omega|with_reducible rfl|exact fun h=>Bool.noConfusion h));((refine Ab trivial ?_;refine Ae ?_;refine Ab trivial ?_;refine Ae ?_;refine An hM ?_;refine Ae ?_;refine Ab trivial ?_;refine Ae ?_;refine An hM ?_;refine Ae ?_;refine Bm trivial ?_ ?_));(focus (first|assumption|omega|with_reducible rfl|exact fun h=>Bool.noConfusion h));((refine Ab trivial ?_;refine Ae ?_;refine Ab trivial ?_;refine Ae ?_;refine An hM ?_;refine Ae ?_;refine Ab trivial ?_;refine Ae ?_;refine An hM ?_;refine Ae ?_)))
  refine Bm trivial (fun h=>h rfl) ?_
  (((refine Ab trivial ?_;refine Ae ?_;refine Ab trivial ?_;refine Ae ?_;refine An hM ?_;refine Ae ?_;refine Ab trivial ?_;refine Ae ?_;refine An hM ?_;refine Ae ?_)))
  refine Bm trivial (fun h=>h rfl) ?_
  (((refine Ab trivial ?_;refine Ae ?_;refine Ab trivial ?_;refine Ae ?_;refine An hM ?_;refine Ae ?_;refine Ab trivial ?_;refine Ae ?_;refine An hM ?_;refine Ae ?_)))
  refine Bm trivial (fun h=>h rfl) ?_
  (((refine Ab trivial ?_;refine Ae ?_;refine Ab trivial ?_;refine Ae ?_;refine An hM ?_;refine Ae ?_;refine Ab trivial ?_;refine Ae ?_;refine An hM ?_;refine Ae ?_)))
  refine Bm trivial (fun h=>h rfl) ?_
  (((refine Ab trivial ?_;refine Ae ?_;refine Ab trivial ?_;refine Ae ?_;refine An hM ?_;refine Ae ?_;refine Ab trivial ?_;refine Ae ?_;refine An hM ?_;refine Ae ?_)))
  refine Bm trivial (fun h=>h rfl) ?_
  (((refine Ab trivial ?_)))
  exact⟨rfl,hM⟩
 rintro x u w3 ⟨rfl,hM2⟩
 replace hM:=hM2
 clear hM2
 (((refine Aj ?_)))
 refine⟨fun x w'=>x=.bool false∧hM.now w',?_,?_⟩
 ·(((refine Ab trivial ?_;refine An hM ?_;refine Ab trivial ?_;refine An hM ?_)))
  refine Bn hM (aUr _ h1.len.1 h1.props h2.props hM.fz) (fun w4 hM2=>?_)
  replace hM:=hM2
  clear hM2
  (((refine Ab trivial ?_;refine Ae ?_;refine Ab trivial ?_;refine Ae ?_;refine An hM ?_;refine Ae ?_;refine Ab trivial ?_;refine Ae ?_;refine An hM ?_;refine Ae ?_)))
  refine Bn hM (aUs _ h1.len.2.1 h1.path h1.path2 h2.path h2.path2 hM.fz) (fun w4 hM2=>?_)
  replace hM:=hM2
  clear hM2
  (((refine Ae ?_;refine Ab trivial ?_;refine Ab trivial ?_;refine Ae ?_;refine Ab trivial ?_;refine Ae ?_;refine An hM ?_;refine Ae ?_;refine Ab trivial ?_;refine Ae ?_;refine Ab trivial ?_;refine Ae ?_;refine An hM ?_;refine Ae ?_;refine Ab trivial ?_;refine Ae ?_;refine Bm trivial ?_ ?_));(focus (first|assumption|omega|with_reducible rfl|exact fun h=>Bool.noConfusion h));((refine Ab trivial ?_)))
  exact⟨rfl,hM⟩
 rintro x u w4 ⟨rfl,hM2⟩
 replace hM:=hM2
 clear hM2
 (((refine Aj ?_)))
 refine⟨fun v w'=>∃ i:Nat,v=.int .i64 i∧i≤c.wels.length∧hM.now w',fun v _=>match v with | .int _ k=>c.wels.length - k.toNat|_=>0,⟨0,rfl,by omega,hM⟩,?_⟩
 rintro v u w5 ⟨i,rfl,hi,hM⟩
 replace hM:Mem H w _ w5:=hM
 (((refine Ab trivial ?_;refine An hM ?_;refine Ab trivial ?_)))
 (((refine Aw trivial ?_ ?_)))
 ·intro hlt
  have hlt':i<c.wels.length:=by omega
  have hw1:=h1.wels
  have hw2:=h2.wels
  obtain⟨bb,oo,rfl⟩:=hw1.some_ (by rw[List.length_map];omega)
  obtain⟨bb2,oo2,rfl⟩:=hw2.some_ (by rw[List.length_map];omega)
  (((refine Am ?_;refine Ap trivial ?_;refine Ba hM ?_));(refine Hk ‹_› ?_ ?_ ?_);(focus (simp only[List.length_map];omega));(focus (simp only[List.length_map];first|done|omega));((intro _ _ hA));(cases hA);(refine Iw hM ‹_› (By ?_) ?_);(focus omega);((refine Ap trivial ?_;refine Ba hM ?_));(refine Hk ‹_› ?_ ?_ ?_);(focus (simp only[List.length_map];omega));(focus (simp only[List.length_map];first|done|omega));((intro _ _ hA));(cases hA);(refine Iw hM ‹_› (By ?_) ?_);(focus omega))
  refine Ap trivial ?_
  simp only[eq_self,and_self,not_true_eq_false,decide_false]
  (((refine Bc hM ?_;clear hM;intro _ hM;refine Aj ?_;refine Ab ?_ ?_));(focus omega))
  exact⟨⟨i+1,by rw[Value.int.injEq];refine⟨rfl,?_⟩;push_cast;rfl,by omega,hM⟩,by simp only;omega⟩
 ·intro hge
  (((refine Aj ?_)))
  exact⟨rfl,hM.st⟩
end
end Go.Proofs.YtgbenhmdamnmcaaGreat.Cmt
namespace Go.Proofs.YtgbenhmdamnmcaaGreat.Cmt
open Go.Proofs.Tryz
open Go.RowKit Go.Lib Go.Proofs.YtgbenhmdamnmcaaGreat.Chg
instance:FunC prog 46:=⟨by kernel_rfl⟩
abbrev rpt (g:Nat):List Fd:=[.one (.pointer (some ⟨g,0,none⟩))]
abbrev refv (e:Int):Value:=.iface 91 (.agg (fl [Fd.one (.int .i64 e)]).toArray)
section
variable {H:Hp} {w0 w:World} {L R:List Res} {s:RdS} {g g4:Nat}
theorem bAs {RR:Ending→World→Prop} (hM:Mem H w0 (rdO g s::fb g4 93 (rpt g)::L) w) (h0:s.e=0→∀ w',Mem H w0 (rdO g s::fb g4 93 (rpt g)::L) w'→RR (.returned (.tuple #[])) w') (h1:s.e≠0→∀ w',Mem H w0 (rdO g s::fb g4 93 (rpt g)::L) w'→RR (.panicked [{ v:=refv s.e,recovered:=false }]) w'):
  Calls prog 46 #[.pointer (some ⟨g4,0,none⟩)] w RR:=by
 refine Tb ?_
 unfold Ki
 (((refine An hM ?_;refine Bu hM ?_ ?_));(focus (first|exact trivial|assumption|omega));((clear hM;intro _ hM)))
 by_cases he:s.e=0
 ·(((refine Bm trivial ?_ ?_));(focus (first|assumption|omega|with_reducible rfl|exact fun h=>Bool.noConfusion h));((refine Aj ?_)))
  exact h0 he _ hM
 ·(((refine Bt trivial ?_ ?_));(focus (first|assumption|omega|with_reducible rfl|exact fun h=>Bool.noConfusion h));((refine Am ?_;refine Ab trivial ?_)))
  refine Br (v:=refv s.e) (fun w=>by kernel_rfl) ?_
  refine Ms ?_
  exact h1 he _ hM
theorem Hs {a b:Nat} {sr:RdS} {P Q W:Option Addr} {n m k pc qc wc:Nat} {lf ab tg sg:H32} {inf:ByteArray} {RR:Ending→World→Prop} (e e2:Int) (hM:Mem H w0 (fb a 28 (cf0 sr P n pc lf ab Q m qc inf W k wc tg sg)::fb b 34 [.one (.int .i64 e)]::L) w) (hR:∀ w',Mem H w0 L w'→RR (.returned (.tuple #[cv none 0 none 0 none 0 cnil,.int .i64 e2])) w'):
  CallsD prog 44 #[.pointer (some ⟨a,0,none⟩),.pointer (some ⟨b,0,none⟩)] (.panicking [{ v:=refv e2,recovered:=false }]) w (dres prog [(28,.pointer (some ⟨a,0,none⟩)),(34,.pointer (some ⟨b,0,none⟩))] RR):=by
 refine Kh ?_
 unfold Ey
 refine Br (v:=.bool true) (fun w=>by kernel_rfl) ?_
 (((refine Am ?_)))
 refine Br (v:=.tuple #[.agg (fl [Fd.one (.int .i64 e2)]).toArray,.bool true]) (fun w=>by kernel_rfl) ?_
 (((refine Ab trivial ?_;refine Ab trivial ?_;refine Bf hM ?_;clear hM;intro _ _ hM;refine Az hM ?_;clear hM;intro _ hM)))
 rename_i g _ _
 refine⟨fun w'=>hM.now w',?_,?_⟩
 ·(((refine Ab trivial ?_;refine Aj ?_)))
  exact hM
 rintro u w2 hM
 have hne:¬g=a:=(hM.upB g).neB
 refine⟨Rl.only fun b=>b=a,?_⟩
 (((refine Ap trivial ?_;refine Ap trivial ?_)))
 refine Zi hM hne ?_
 refine aAp hM (fun w5 hM=>?_)
 (((refine Ca hM ?_;clear hM;intro _ hM;refine Bc hM ?_;clear hM;intro _ hM)))
 have hM:Mem H w0 (_::fb a 28 (cfd none 0 none 0 none 0 cnil)::fb b 34 [.one (.int .i64 e2)]::L) _:=hM
 show retc _ _ _ _
 refine Bz (hM.at_ (fb a 28 (cfd none 0 none 0 none 0 cnil))) ?_
 refine Bz (hM.at_ (fb b 34 [.one (.int .i64 e2)])) ?_
 exact hR _ hM.sub
theorem aQi {a b:Nat} {RR:Ending→World→Prop} (e:Int) {c:Cm} {P Q W:Option Addr} {pc qc wc:Nat} (hM:Mem H w0 (fb a 28 (cfd P pc Q qc W wc c)::fb b 34 [.one (.int .i64 e)]::L) w) (hR:∀ w',Mem H w0 L w'→RR (.returned (.tuple #[cv P pc Q qc W wc c,.int .i64 e])) w'):
  CallsD prog 44 #[.pointer (some ⟨a,0,none⟩),.pointer (some ⟨b,0,none⟩)] .returning w (dres prog [(28,.pointer (some ⟨a,0,none⟩)),(34,.pointer (some ⟨b,0,none⟩))] RR):=by
 refine Kh ?_
 unfold Ey
 refine Br (v:=.bool false) (fun w=>by kernel_rfl) ?_
 (((refine Aj ?_)))
 show retc _ _ _ _
 refine Bz hM ?_
 refine Bz (hM.at_ (fb b 34 [.one (.int .i64 e)])) ?_
 exact hR _ hM.sub
end
end Go.Proofs.YtgbenhmdamnmcaaGreat.Cmt
