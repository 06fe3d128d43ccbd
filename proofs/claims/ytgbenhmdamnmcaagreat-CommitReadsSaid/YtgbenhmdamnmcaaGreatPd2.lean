/- Part 2 of the proof. -/
import Derived.Test.YtgbenhmdamnmcaaGreatPd1
import Derived.ProofKit
import Derived.OpenShut
import Derived.ShutString
import Derived.ChangeOld
import Derived.Below
import Derived.SliceStrings
import Derived.Deep.Slices
import Derived.Deep.Strs
import Derived.ChangeSame
import Derived.WideKeyArr2
import Derived.ChangeMaps5
import Derived.Test.YtgbenhmdamnmcaaGreatProg
import Derived.KernelRfl
set_option linter.unusedVariables false
namespace Go.Proofs.YtgbenhmdamnmcaaGreat
open Go.Proofs.Tryz
open Go.RowKit
section
variable {P:Program} {H H':Hp} {w0 w w':World} {L R R':List Res} {g i j:Nat} {t t':TypeId} {fs gs fs':List Fd} {put:Res→List Res} {q:Bool} {n m cap cap' e e' sz by_:Nat} {v:Value} {K:Value→World→Prop} {X:List PanicEntry→World→Prop} {Kq:Value→Prop} {A A':Option Addr} {ps qs:List (List Fd)}
structure Le (w0:World) (H H':Hp):Prop where
 le:H.le H'
 new:∀ b,b<w0.heap.size→H b=none→H' b=none
theorem Le.refl (w0:World) (H:Hp):Le w0 H H:=⟨Hp.le.refl H,fun _ _ h=>h⟩
theorem Le.trans {a b c:Hp} (h:Le w0 a b) (k:Le w0 b c):Le w0 a c:=⟨h.le.trans k.le,fun x hx e=>k.new x hx (h.new x hx e)⟩
theorem Le.old (h:Le w H H') (hs:w0.heap.size≤w.heap.size):Le w0 H H':=⟨h.le,fun b hb e=>h.new b (Nat.lt_of_lt_of_le hb hs) e⟩
structure Sl (H:Hp) (sz:Nat) (A:Option Addr) (ps:List (List Fd)):Prop where
 els:Els sz ps
 at_:ps=[]∨∃ b o c,A=some ⟨b,o,none⟩∧H b=some c∧∀ j u,(fls ps)[j]?=some u→c[o+j]?=some u
theorem Sl.mono (h:Sl H sz A ps) (k:H.le H'):Sl H' sz A ps:=⟨h.els,h.at_.imp id fun⟨b,o,c,h1,h2,h3⟩=>⟨b,o,c,h1,k b c h2,h3⟩⟩
theorem Sl.nil (H:Hp) (sz:Nat) (A:Option Addr):Sl H sz A []:=⟨Els.nil sz,.inl rfl⟩
theorem Sl.some_ (h:Sl H sz A ps) (hn:0<ps.length):∃ b o,A=some ⟨b,o,none⟩:=by
 rcases h.at_ with rfl|⟨b,o,_,hA,_⟩
 ·simp at hn
 ·exact⟨b,o,hA⟩
theorem Sl.cell {b o:Nat} (h:Sl H sz (some ⟨b,o,none⟩) ps) (hf:Fz H w) {j:Nat} {u:Value} (hu:(fls ps)[j]?=some u):w.cell? ⟨b,o+j,none⟩=some u:=by
 rcases h.at_ with rfl|⟨b',o',c,hA,hH,hc⟩
 ·simp[fls]at hu
 ·cases hA
  rw[hf.cell hH]
  exact hc j u hu
theorem Sl.src {tx:TypeId} (h:Sl H sz A ps) (hf:Fz H w) (hk:P.underlying tx=some (.slice e')) (c:Nat):Src P sz tx (.slice A ps.length c) ps.length (fls ps) w:=by
 rcases h.at_ with rfl|⟨b,o,c',rfl,hH,hc⟩
 ·cases A with
  | none=>exact Src.ofNil w hk c
  | some a=>exact Src.ofSlice w hk a 0 c [] (by simp) (fun j u hu=>by simp at hu) (fun u hu=>by cases hu)
 ·refine Src.ofSlice w hk ⟨b,o,none⟩ ps.length c (fls ps) h.els.len (fun j u hu=>?_) h.els.one
  rw[Addr.add_lit]
  exact Sl.cell h hf hu
theorem Ss {b o k off:Nat} (els:Els sz ps) (hp:ps[k]?=some fs) (c:ShpC P t q n) (s:Sub fs off n gs) (f:Fv q gs v) (hc:∀ j u,(fls ps)[j]?=some u→w.cell? ⟨b,o+j,none⟩=some u):PurW P w (Ad t (.pointer (some ⟨b,o+k*sz+off,none⟩))) v:=by
 have hf:=(els.ok fs (List.mem_of_getElem? hp)).1
 obtain⟨h1,h2,h3⟩:=s.cells hf
 refine Iy c.ok h1 (by rw[← h1.len];exact h2) f fun j u hu=>?_
 have:=hc _ _ (els.at_ hp _ _ (h3 j u hu))
 rwa [show o+(k*sz+(off+j))=o+k*sz+off+j by omega]at this
theorem aYv {k off:Nat} (h:Mem H w0 L w) [c:ShpC P t q n] [a:AtG L g e sz m cap ps put] (hp:ps[k]?=some fs) [s:Sub fs off n gs] [f:Fv q gs v] (hk:K v w):mop P (Ad t (.pointer (some ⟨g,0+k*sz+off,none⟩))) w K X:=by
 obtain⟨h1,h2,h3⟩:=h.rowCells a
 exact Dz (Ss h1 hp c s f (fun j u hu=>by rw[Nat.zero_add];exact h3 j u hu)) hk
theorem Yg {k:Nat} (h:Mem H w0 L w) [c:ShpC P t q n] [a:AtG L g e sz m cap ps put] (hp:ps[k]?=some fs) [s:Sub fs 0 n gs] [f:Fv q gs v] (hk:K v w):mop P (Ad t (.pointer (some ⟨g,0+k*sz,none⟩))) w K X:=aYv (off:=0) h hp hk
theorem aQy {k off:Nat} (h:Mem H w0 L w) [c:ShpC P t q n] [a:AtG L g e sz m cap ps put] (hp:ps[k]?=some fs) [s:Sub fs off n gs] [f:Fv q gs v] (hk:Kq v):dq P w (Ad t (.pointer (some ⟨g,0+k*sz+off,none⟩))) Kq:=by
 obtain⟨h1,h2,h3⟩:=h.rowCells a
 exact Kx (fun w' hw=>Ss h1 hp c s f (fun j u hu=>by rw[Nat.zero_add];exact hw.cell (h3 j u hu))) hk
theorem Cv {k:Nat} (h:Mem H w0 L w) [c:ShpC P t q n] [a:AtG L g e sz m cap ps put] (hp:ps[k]?=some fs) [s:Sub fs 0 n gs] [f:Fv q gs v] (hk:Kq v):dq P w (Ad t (.pointer (some ⟨g,0+k*sz,none⟩))) Kq:=aQy (off:=0) h hp hk
theorem Ip {b o k off:Nat} (h:Mem H w0 L w) (a:Sl H sz (some ⟨b,o,none⟩) ps) [c:ShpC P t q n] (hp:ps[k]?=some fs) [s:Sub fs off n gs] [f:Fv q gs v] (hk:K v w):mop P (Ad t (.pointer (some ⟨b,o+k*sz+off,none⟩))) w K X:=
 Dz (Ss a.els hp c s f (fun _ _ hu=>a.cell h.fz hu)) hk
theorem Cb {b o k:Nat} (h:Mem H w0 L w) (a:Sl H sz (some ⟨b,o,none⟩) ps) [c:ShpC P t q n] (hp:ps[k]?=some fs) [s:Sub fs 0 n gs] [f:Fv q gs v] (hk:K v w):mop P (Ad t (.pointer (some ⟨b,o+k*sz,none⟩))) w K X:=Ip (off:=0) h a hp hk
theorem Iq {b o k off:Nat} (h:Mem H w0 L w) (a:Sl H sz (some ⟨b,o,none⟩) ps) [c:ShpC P t q n] (hp:ps[k]?=some fs) [s:Sub fs off n gs] [f:Fv q gs v] (hk:Kq v):dq P w (Ad t (.pointer (some ⟨b,o+k*sz+off,none⟩))) Kq:=
 Kx (fun _ hw=>Ss a.els hp c s f (fun _ _ hu=>hw.cell (a.cell h.fz hu))) hk
theorem Iw {b o k:Nat} (h:Mem H w0 L w) (a:Sl H sz (some ⟨b,o,none⟩) ps) [c:ShpC P t q n] (hp:ps[k]?=some fs) [s:Sub fs 0 n gs] [f:Fv q gs v] (hk:Kq v):dq P w (Ad t (.pointer (some ⟨b,o+k*sz,none⟩))) Kq:=Iq (off:=0) h a hp hk
class SliS (P:Program) (t:TypeId) (sz:outParam Nat):Prop where
 ok:P.underlying t=some (.slice (P.elem t))∧(P.info? (P.elem t)).map (·.size)=some sz
theorem Zg {ii:Int} {kk:IntKind} (h:Mem H w0 L w) [c:SliS P t sz] [k:AtR L A n cap e sz ps R] (hi:0≤ii∧ii<n) (hk:∀ g,A=some ⟨g,0,none⟩→K (.pointer (some ⟨g,0+ii.toNat*sz,none⟩)) w):mop P (Ag t (.slice A n cap) (.int kk ii)) w K X:=by
 obtain⟨g,rfl⟩:=h.rowAt k (by omega)
 exact Br (Bw t g 0 n cap kk ii sz c.ok.1 c.ok.2 hi.1 hi.2) (hk g rfl)
theorem Cj {ii:Int} {kk:IntKind} (h:Mem H w0 L w) [c:SliS P t sz] [k:AtR L A n cap e sz ps R] (hi:0≤ii∧ii<n) (hk:∀ g,A=some ⟨g,0,none⟩→Kq (.pointer (some ⟨g,0+ii.toNat*sz,none⟩))):dp P (Ag t (.slice A n cap) (.int kk ii)) Kq:=by
 obtain⟨g,rfl⟩:=h.rowAt k (by omega)
 exact Og (Bw t g 0 n cap kk ii sz c.ok.1 c.ok.2 hi.1 hi.2) (hk g rfl)
theorem Ci {ii:Int} {kk:IntKind} (a:Sl H sz A ps) [c:SliS P t sz] (hi:0≤ii∧ii<ps.length) (hn:n=ps.length) (hk:∀ b o,A=some ⟨b,o,none⟩→K (.pointer (some ⟨b,o+ii.toNat*sz,none⟩)) w):mop P (Ag t (.slice A n cap) (.int kk ii)) w K X:=by
 subst hn
 obtain⟨b,o,rfl⟩:=a.some_ (by omega)
 exact Br (Bw t b o _ cap kk ii sz c.ok.1 c.ok.2 hi.1 hi.2) (hk b o rfl)
theorem Hk {ii:Int} {kk:IntKind} (a:Sl H sz A ps) [c:SliS P t sz] (hi:0≤ii∧ii<ps.length) (hn:n=ps.length) (hk:∀ b o,A=some ⟨b,o,none⟩→Kq (.pointer (some ⟨b,o+ii.toNat*sz,none⟩))):dp P (Ag t (.slice A n cap) (.int kk ii)) Kq:=by
 subst hn
 obtain⟨b,o,rfl⟩:=a.some_ (by omega)
 exact Og (Bw t b o _ cap kk ii sz c.ok.1 c.ok.2 hi.1 hi.2) (hk b o rfl)
theorem Mem.open_ (h:Mem H w0 L w) (k:AtR L A n cap e sz ps R):Els sz ps∧ps.length=n∧∃ B,Hl R B∧(∀ b∈B,b.nw=true∧H b.g=none)∧RowSt w0 e sz B A n cap (fls ps) w∧∀ g,A=some ⟨g,0,none⟩→H g=none:=by
 obtain⟨B,⟨B1,B2,rfl,⟨h1,h2,h3⟩,h4⟩,hs,hb⟩:=(h.perm k.perm).own
 refine⟨h1,h2,B2,h4,fun b hm=>hb b (List.mem_append.2 (.inr hm)),⟨by rw[h1.len,h2],?_⟩,?_⟩
 ·rcases h3 with ⟨rfl,rfl,rfl,rfl⟩|⟨g,sp,rfl,rfl,h5⟩
  ·exact .inl ⟨rfl,rfl,rfl,hs⟩
  ·exact .inr ⟨g,sp,rfl,hs,h5⟩
 ·rintro g rfl
  rcases h3 with ⟨hA,_⟩|⟨g',sp,hA,rfl,_⟩
  ·cases hA
  ·cases hA
   exact(hb ⟨g,e,fls ps++sp,true⟩ (by simp)).2
theorem Mem.shut (hf:Fz H w) (h1:Els sz ps) (h2:ps.length=n) {B:List Bk} (hl:Hl R B) (hb:∀ b∈B,b.nw=true∧H b.g=none) (hr:RowSt w0 e sz B A n cap (fls ps) w) (hA:∀ g,A=some ⟨g,0,none⟩→H g=none):Mem H w0 (rowR e sz A n cap ps::R) w:=by
 rcases hr.2 with ⟨rfl,rfl,rfl,hs⟩|⟨g,sp,rfl,hs,h5⟩
 ·exact⟨⟨B,⟨[],B,rfl,⟨h1,h2,.inl ⟨rfl,rfl,rfl,rfl⟩⟩,hl⟩,hs,hb⟩,hf⟩
 ·refine⟨⟨⟨g,e,fls ps++sp,true⟩::B,⟨[⟨g,e,fls ps++sp,true⟩],B,rfl,⟨h1,h2,.inr ⟨g,sp,rfl,rfl,h5⟩⟩,hl⟩,hs,fun b hm=>?_⟩,hf⟩
  rcases List.mem_cons.1 hm with rfl|hm
  ·exact⟨rfl,hA g rfl⟩
  ·exact hb b hm
theorem Mem.src {tx:TypeId} (h:Mem H w0 L w) (k:AtR L A n cap e sz ps R) (hk:P.underlying tx=some (.slice e')) (c:Nat):Src P sz tx (.slice A n c) n (fls ps) w:=by
 obtain⟨B,⟨B1,B2,rfl,⟨h1,h2,h3⟩,_⟩,hs,_⟩:=(h.perm k.perm).own
 subst h2
 rcases h3 with ⟨rfl,hn,_,_⟩|⟨g,sp,rfl,rfl,_⟩
 ·have:ps=[]:=List.eq_nil_of_length_eq_zero hn
  subst this
  exact Src.ofNil w hk c
 ·refine Src.ofSlice w hk ⟨g,0,none⟩ ps.length c (fls ps) h1.len (fun j u hu=>?_) h1.one
  rw[Addr.add_lit,Nat.zero_add]
  have:=hs.own ⟨g,e,fls ps++sp,true⟩ (by simp)
  rw[this.cell]
  simp only
  rw[List.getElem?_append_left (List.getElem?_eq_some_iff.1 hu).1]
  exact hu
theorem aLx {tx ty:TypeId} {ks:List Bool} {x:Value} (h:Mem H w0 L w) [c:SliC P t e sz by_] (k:AtR L A n cap e sz ps R) (hs:Src P sz tx x m (fls qs) w) (hq:Els sz qs) (hm:qs.length=m) (h63:n+m≤maxLen) (hbytes:(n+m)*by_≤140737488355328)
  (hk:∀ A' cap' w',Only (fun g=>A=some ⟨g,0,none⟩) w w'→Mem H w0 (rowR e sz A' (n+m) cap' (ps++qs)::R) w'→K (.slice A' (n+m) cap') w'):mop P (Ak .append #[t,tx] ty ks [.slice A n cap,x]) w K X:=by
 obtain⟨h1,h2,B,hl,hb,hr,hA⟩:=h.open_ k
 obtain⟨ht,i,z,hi,hz,h4,h5,h6⟩:=Je c.ok
 obtain⟨A',cap',w',hrun,hrow',ho,hA'⟩:=Oi t tx ty e ks i z sz by_ ht hi hz h4 h5 h6 hr hs h63 hbytes
 refine Cl hrun (hk A' cap' w' ho ?_)
 rw[← Gp]at hrow'
 refine Mem.shut (h.fz.same fun b c hc=>ho.block b (h.fz.lt hc) fun e=>?_) (h1.app hq) (by simp[h2,hm]) hl hb hrow' fun g hg=>?_
 ·have:=hA b e
  rw[hc]at this
  cases this
 ·rcases hA' with rfl|⟨g',hg',hle⟩
  ·exact hA g hg
  ·rw[hg]at hg'
   cases hg'
   cases hh:H g with
   | none=>rfl
   | some c=>have:=h.fz.lt hh;omega
theorem Zh {tx ty:TypeId} {ks:List Bool} {x:Value} (h:Mem H w0 L w) [c:SliC P t e sz by_] (k:AtR L A n cap e sz ps R) (hs:Src P sz tx x m (fls qs) w) (hq:Els sz qs) (hm:qs.length=m) (h63:n+m≤maxLen) (hbytes:(n+m)*by_≤140737488355328)
  (hk:∀ A' cap' w',Mem H w0 (rowR e sz A' (n+m) cap' (ps++qs)::R) w'→K (.slice A' (n+m) cap') w'):mop P (Ak .append #[t,tx] ty ks [.slice A n cap,x]) w K X:=
 aLx h k hs hq hm h63 hbytes fun A' cap' w' _=>hk A' cap' w'
class Lits (P:Program) (sz i:Nat) (ps:List (Nat × Value)) (qs:outParam (List (List Fd))):Prop where
 ok:Els sz qs∧ps.length=qs.length∧∀ cs:List Value,(i+ps.length)*sz=cs.length→Instr.fill (fun i=>some (i*sz,sz)) cs.toArray ps=some (cs.take (i*sz)++fls qs).toArray
instance (i:Nat):Lits P sz i [] []:=⟨Els.nil sz,rfl,fun cs h=>by
 simp at h
 simp only[Instr.fill,fls,List.map_nil,List.flatten_nil,List.append_nil]
 rw[List.take_of_length_le (by omega)]⟩
instance (i:Nat) (v:Value) (ps:List (Nat × Value)) (p:List Fd) (qs:List (List Fd)) [f:Vf v sz p] [k:Lits P sz (i+1) ps qs]:Lits P sz i ((i,v)::ps) (p::qs):=⟨by
 obtain⟨e,hn,hf⟩:=f.ok
 obtain⟨h1,h2,h3⟩:=k.ok
 refine⟨Els.cons hf hn h1,by simp[h2],fun cs hc=>?_⟩
 have e2:v.cells.size=sz:=by rw[← Array.length_toList,e,hf.len,hn]
 have hc2:i*sz+sz+ps.length*sz=cs.length:=by rw[← hc,List.length_cons,Nat.add_mul,Nat.add_mul];omega
 have hl:(lay cs (fl p) (i*sz)).length=cs.length:=Ds _ _ _ (by rw[hf.len,hn];omega)
 unfold Instr.fill
 simp only
 rw[if_neg (by simp[e2];omega),Zf v (i*sz) cs (by omega),e,h3 _ (by rw[hl,← hc,List.length_cons];congr 1;omega)]
 congr 2
 rw[Gn,← List.append_assoc]
 congr 1
 rw[show(i+1)*sz=i*sz+sz by rw[Nat.add_mul];omega]
 unfold lay
 rw[List.take_append_of_le_length (by simp[hf.len,hn];omega)]
 exact List.take_of_length_le (by simp[hf.len,hn];omega)⟩
theorem Jf {ps:List (Nat × Value)} (c:SliC P t e sz by_) (k:Lits P sz 0 ps qs) (hsz:ps.length*sz≤16777216):(Al t ps.length ps).run P w=.ok (.value (.slice (some ⟨w.heap.size,0,none⟩) ps.length ps.length)) (w.alloc (.cells (fls qs).toArray e)):=by
 obtain⟨ht,i,z,hi,hz,h4,h5,h6⟩:=Je c.ok
 obtain⟨h1,h2,h3⟩:=k.ok
 have hs:(sizeOf e).run P w=.ok sz w:=Ch (by simp[hi,h4]) w
 have hlit:∀ zc:Array Value,Instr.fill (fun i=>some (i*sz,sz)) ((Array.range (ps.length*sz)).map (zc[·%zc.size]!)) ps=some (fls qs).toArray:=fun zc=>by
  have hfill:=h3 ((List.range (ps.length*sz)).map (zc[·%zc.size]!)) (by simp)
  have:(Array.range (ps.length*sz)).map (zc[·%zc.size]!)=((List.range (ps.length*sz)).map (zc[·%zc.size]!)).toArray:=by
   apply Array.ext'
   simp
  rw[this,hfill]
  simp
 have hz2:(zeroValue e).run P w=.ok z w:=by simp[zeroValue,typeInfo,hi,hz]
 simp only[Al,sv,Instr.buildSlice,Sem.run_bind,run_underlying ht,Result.andThen_ok,hs]
 rw[if_neg (by omega)]
 by_cases h0:ps.length*sz=0
 ·simp only[h0,if_true,Sem.run_bind,Sem.run_pure,Result.andThen_ok]
  have:=hlit #[]
  simp only[h0]at this
  rw[this]
  simp[newRow,go_sem]
 ·simp only[h0,if_false,Sem.run_bind,Sem.run_pure,Result.andThen_ok,hz2,hlit]
  simp[newRow,go_sem]
theorem Bx {ps:List (Nat × Value)} (h:Mem H w0 L w) [c:SliC P t e sz by_] [k:Lits P sz 0 ps qs] (hn:n=ps.length) (hsz:ps.length*sz≤16777216∧ps.length≤16777216) (hk:∀ g w',Mem H w0 (rowR e sz (some ⟨g,0,none⟩) n n qs::L) w'→K (.slice (some ⟨g,0,none⟩) n n) w'):mop P (Al t n ps) w K X:=by
 subst hn
 obtain⟨h1,h2,_⟩:=k.ok
 refine Cl (Jf c k hsz.1) (hk _ _ ?_)
 obtain⟨B,hl,hs,hb⟩:=h.own
 refine⟨⟨⟨w.heap.size,e,fls qs,true⟩::B,⟨[⟨w.heap.size,e,fls qs,true⟩],B,rfl,⟨h1,h2.symm,.inr ⟨w.heap.size,[],rfl,by simp,by simp[h1.len,h2],Nat.le_refl _,?_⟩⟩,hl⟩,hs.alloc e (fls qs),fun b hm=>?_⟩,h.fz.ext ((Only.refl _ w).alloc _)⟩
 ·exact Nat.le_trans hsz.2 (by decide)
 ·rcases List.mem_cons.1 hm with rfl|hm
  ·refine⟨rfl,?_⟩
   cases hh:H w.heap.size with
   | none=>rfl
   | some c=>have:=h.fz.lt hh;omega
  ·exact hb b hm
end
end Go.Proofs.YtgbenhmdamnmcaaGreat
namespace Go.Proofs.YtgbenhmdamnmcaaGreat
open Go.Proofs.Tryz
open Go.RowKit
section
variable {P:Program} {H H':Hp} {w0 w w':World} {L R R':List Res} {g i j:Nat} {t t' tx ty:TypeId} {fs gs fs':List Fd} {put:Res→List Res} {q:Bool} {n m cap cap' capx e e' ex sz by_:Nat} {v x:Value} {K:Value→World→Prop} {X:List PanicEntry→World→Prop} {Kq:Value→Prop} {A A' B:Option Addr} {ps qs:List (List Fd)} {ks:List Bool}
theorem AtR.nil (L:List Res) (e sz:Nat):AtR (rowR e sz none 0 0 []::L) none 0 0 e sz [] L:=⟨.refl _⟩
theorem SliC.und (c:SliC P t e sz by_):P.underlying t=some (.slice e):=(Je c.ok).1
theorem Co (h:Mem H w0 L w) [c:SliC P t e sz by_] [k:AtR L A n cap e sz ps R] [k':AtR R B m capx ex sz qs R'] [cx:SliC P tx e' sz by_] (hb:n+m≤9223372036854775807∧(n+m)*by_≤140737488355328)
  (hk:∀ A' cap' w',Mem H w0 (rowR e sz A' (n+m) cap' (ps++qs)::R') w'→K (.slice A' (n+m) cap') w'):mop P (Ak .append #[t,tx] ty ks [.slice A n cap,.slice B m capx]) w K X:=by
 have h2:=h.perm k.perm
 have kx:AtR (rowR e sz A n cap ps::R) B m capx ex sz qs (rowR e sz A n cap ps::R'):=inferInstance
 have hs:=h2.src kx cx.und capx
 obtain⟨h3,_,_,h4⟩:=h2.rowLen kx
 exact Zh h k hs h4 h3 hb.1 hb.2 fun A' cap' w' h5=>hk A' cap' w' ((h5.perm ((k'.perm.cons _).trans (.swap ..))).drop)
theorem aLy (h:Mem H w0 L w) [c:SliC P t e sz by_] [k:AtR L A n cap e sz ps R] [cx:SliC P tx e' sz by_] (a:Sl H sz B qs) (hm:m=qs.length) (hb:n+m≤9223372036854775807∧(n+m)*by_≤140737488355328)
  (hk:∀ A' cap' w',Mem H w0 (rowR e sz A' (n+m) cap' (ps++qs)::R) w'→K (.slice A' (n+m) cap') w'):mop P (Ak .append #[t,tx] ty ks [.slice A n cap,.slice B m capx]) w K X:=by
 subst hm
 exact Zh h k (a.src h.fz cx.und capx) a.els rfl hb.1 hb.2 hk
theorem aGm (h:Mem H w0 L w) {s:Sem Next} (hk:∀ w',Mem H w0 L w'→mop P s w' K (fun _ _=>False)):df P w s false K:=El fun w1 hd=>Fc (hk w1 (h.drawn hd)) (fun _ _ h=>⟨(fun e=>by cases e),h⟩) (fun _ _ h=>h)
theorem aYw {ext:Bool} {ps:List (Nat × Value)} (h:Mem H w0 L w) [c:SliC P t e sz by_] [k:Lits P sz 0 ps qs] (hn:n=ps.length) (hsz:ps.length*sz≤16777216∧ps.length≤16777216) (hk:∀ g w',Mem H w0 (rowR e sz (some ⟨g,0,none⟩) n n qs::L) w'→K (.slice (some ⟨g,0,none⟩) n n) w'):df P w (Al t n ps) ext K:=by
 refine El fun w1 hd=>?_
 subst hn
 have hm:=Bx (P:=P) (K:=fun v w2=>w2=w1.alloc (.cells (fls qs).toArray e)∧K v w2) (X:=fun _ _=>False) (h.drawn hd) (c:=c) (k:=k) rfl hsz
 have hr:=Jf (w:=w1) c k hsz.1
 obtain⟨h1,h2,_⟩:=k.ok
 refine Cl hr ⟨fun _=>hd.ext.trans ((Only.refl _ w1).alloc _),?_⟩
 refine hk _ _ ?_
 obtain⟨B,hl,hs,hb⟩:=(h.drawn hd).own
 refine⟨⟨⟨w1.heap.size,e,fls qs,true⟩::B,⟨[⟨w1.heap.size,e,fls qs,true⟩],B,rfl,⟨h1,h2.symm,.inr ⟨w1.heap.size,[],rfl,by simp,by simp[h1.len,h2],Nat.le_refl _,Nat.le_trans hsz.2 (by decide)⟩⟩,hl⟩,hs.alloc e (fls qs),fun b hm=>?_⟩,(h.drawn hd).fz.ext ((Only.refl _ w1).alloc _)⟩
 rcases List.mem_cons.1 hm with rfl|hm
 ·refine⟨rfl,?_⟩
  cases hh:H w1.heap.size with
  | none=>rfl
  | some c=>have:=(h.drawn hd).fz.lt hh;omega
 ·exact hb b hm
theorem Mem.ne {k:Nat} {tt:TypeId} (h:Mem H w0 L w) (a:AtR L A n cap e sz ps R) (b:AtB R k tt fs put):¬A=some ⟨k,0,none⟩:=by
 rintro rfl
 obtain⟨R',h1,_⟩:=b.perm
 obtain⟨B,⟨B1,B2,rfl,⟨_,_,h3⟩,B3,B4,rfl,⟨_,rfl⟩,_⟩,hs,_⟩:=(h.perm (a.perm.trans (h1.cons _))).own
 rcases h3 with ⟨hA,_⟩|⟨g',sp,hA,rfl,_⟩
 ·cases hA
 ·cases hA
  have:=(List.pairwise_cons.1 hs.ne).1 ⟨k,tt,fl fs,true⟩ (by simp)
  exact this rfl
theorem Zi {k:Nat} {tt:TypeId} {gs:List Fd} {S:Nat→Prop} (h:Mem H w0 L w) [c:ShpC P t q n] [a:AtB L k tt fs put] [s:Sub fs i n gs] [f:Fv q gs v] (hS:¬S k) (hk:Kq v):dqS P (Rl.only S) w (Ad t (.pointer (some ⟨k,i,none⟩))) Kq:=by
 obtain⟨h1,h2,h3⟩:=h.field a s
 obtain⟨hb,_⟩:=h.blf a
 refine⟨v,fun w' hw=>?_,hk⟩
 have:=Iy (w:=w') (b:=k) (o:=i) c.ok h1 h2 f fun j u hu=>(hw.cell (p:=⟨k,i+j,none⟩) hb.lt hS).trans (h3 j u hu)
 unfold opq
 rw[this]
 exact⟨rfl,Drawn.refl w'⟩
theorem Cf {S:Nat→Prop} {ext:Bool} {ps:List (Nat × Value)} (h:Mem H w0 L w) [c:SliC P t e sz by_] [k:Lits P sz 0 ps qs] (hn:n=ps.length) (hsz:ps.length*sz≤16777216∧ps.length≤16777216) (hk:∀ g w',Mem H w0 (rowR e sz (some ⟨g,0,none⟩) n n qs::L) w'→K (.slice (some ⟨g,0,none⟩) n n) w'):dfS P (Rl.only S) w (Al t n ps) ext K:=
 ⟨fun w1 hd=>Fc ((aYw (ext:=true) h hn hsz hk).out w1 hd) (fun _ _ h=>⟨fun _=>(h.1 rfl).mono fun _ _ h=>h.elim,h.2⟩) (fun _ _ h=>h)⟩
theorem Ca {S:Rl} {tt:TypeId} {gs fs':List Fd} {k:Nat} (h:Mem H w0 L w) [c:ShpC P t q n] [a:AtB L k tt fs put] [f:Vf v n gs] [p:Put fs i gs fs'] (hk:∀ w',Mem H w0 (put (fb k tt fs')) w'→K undef w'):dfS P S w (Ai t (.pointer (some ⟨k,i,none⟩)) v) false K:=
 ⟨fun w1 hd=>Fc ((bBi h hk).out w1 hd) (fun _ _ h=>⟨(fun e=>by cases e),h.2⟩) (fun _ _ h=>h)⟩
theorem Mem.freeze (h:Mem H w0 L w) (k:AtR L A n cap e sz ps R):∃ H',Le w0 H H'∧Mem H' w0 R w∧Sl H' sz A ps∧ps.length=n:=by
 obtain⟨B,⟨B1,B2,rfl,⟨h1,h2,h3⟩,h4⟩,hs,hb⟩:=(h.perm k.perm).own
 rcases h3 with ⟨rfl,hn,_,rfl⟩|⟨g,sp,rfl,rfl,h5⟩
 ·have:ps=[]:=List.eq_nil_of_length_eq_zero (by omega)
  subst this
  exact⟨H,Le.refl _ _,⟨⟨B2,h4,hs,hb⟩,h.fz⟩,Sl.nil H sz _,h2⟩
 ·have hs:St w0 (⟨g,e,fls ps++sp,true⟩::B2) w:=hs
  have hg:=hb ⟨g,e,fls ps++sp,true⟩ (by simp)
  have hbf:=hs.head
  have hne:=(List.pairwise_cons.1 hs.ne).1
  refine⟨fun b=>if b=g then some (fls ps++sp).toArray else H b,⟨fun b c hc=>?_,fun b hb1 hc=>?_⟩,⟨⟨B2,h4,hs.drop,fun b hm=>⟨(hb b (List.mem_append.2 (.inr hm))).1,?_⟩⟩,fun b c hc=>?_⟩,⟨h1,.inr ⟨g,0,(fls ps++sp).toArray,rfl,if_pos rfl,fun j u hu=>?_⟩⟩,h2⟩
  ·show(if b=g then _ else H b)=_
   rw[if_neg]
   ·exact hc
   ·rintro rfl
    have:=hg.2
    simp only[hc]at this
    cases this
  ·show(if b=g then _ else H b)=_
   rw[if_neg]
   ·exact hc
   ·rintro rfl
    have:=hs.new _ (List.mem_cons_self ..) rfl
    simp only at this
    omega
  ·show(if b.g=g then _ else H b.g)=_
   rw[if_neg]
   ·exact(hb b (List.mem_append.2 (.inr hm))).2
   ·intro e
    exact hne b hm e.symm
  ·have hc:(if b=g then some (fls ps++sp).toArray else H b)=some c:=hc
   split at hc
   ·rename_i e
    cases hc
    obtain⟨fr,hh,_⟩:=hbf
    exact⟨_,_,by rw[e];exact hh⟩
   ·exact h.fz b c hc
  ·rw[Nat.zero_add]
   simp only[List.getElem?_toArray]
   rw[List.getElem?_append_left (List.getElem?_eq_some_iff.1 hu).1]
   exact hu
def Outp (H:Hp) (w:World) (Q:Hp→Value→Prop):Ending→World→Prop:=fun en w'=>∃ v H',en=.returned v∧Le w H H'∧Mem H' w [] w'∧Q H' v
theorem Mem.out {Q:Hp→Value→Prop} (h:Mem H' w0 L w) (hl:Le w0 H H') (hq:Q H' v):Outp H w0 Q (.returned v) w:=⟨v,H',rfl,hl,h.nil,hq⟩
theorem Outp.ext {Q:Hp→Value→Prop} {en:Ending} (h:Outp H w Q en w'):Ext w w':=by
 obtain⟨_,_,_,_,h,_⟩:=h
 exact h.ext
theorem Gq {f:Nat} {args:List Value} {Q:Hp→Value→Prop} (h:Mem H w0 L w) [hf:FunC P f] (hc:Calls P f args.toArray w (Outp H w Q)) (hk:∀ H' v w',Le w0 H H'→Mem H' w0 L w'→Q H' v→K v w'):mop P (Ah (fv f) args) w K X:=
 Ej hc fun en w' ⟨v,H',he,hl,hm,hq⟩=>by
  subst he
  exact hk H' v w' (hl.old h.ext.size) (h.call hm hl.new) hq
theorem Pu {f:Nat} {args:List Value} {ext:Bool} {Q:Hp→Value→Prop} (h:Mem H w0 L w) [hf:FunC P f] (hc:∀ w,Mem H w0 L w→Calls P f args.toArray w (Outp H w Q)) (hk:∀ H' v w',Ext w w'→Le w0 H H'→Mem H' w0 L w'→Q H' v→K v w'):df P w (Ah (fv f) args) ext K:=
 El fun w1 hd=>Ej (hc w1 (h.drawn hd)) fun en w' ⟨v,H',he,hl,hm,hq⟩=>by
  subst he
  have hx:=hd.ext.trans hm.ext
  exact⟨fun _=>hx,hk H' v w' hx (hl.old (h.drawn hd).ext.size) ((h.drawn hd).call hm hl.new) hq⟩
theorem Bn {f:Nat} {args:List Value} (h:Mem H w0 L w) [hf:FunC P f] (hc:Calls P f args.toArray w fun en w'=>en=.returned v∧St w [] w') (hk:∀ w',Mem H w0 L w'→K v w'):mop P (Ah (fv f) args) w K X:=
 Ej hc fun en w' ⟨he,hs⟩=>by
  subst he
  exact hk w' (h.call0 hs)
theorem Cg {f:Nat} {args:List Value} {ext:Bool} (h:Mem H w0 L w) [hf:FunC P f] (hc:∀ w,Mem H w0 L w→Calls P f args.toArray w fun en w'=>en=.returned v∧St w [] w') (hk:∀ w',Ext w w'→Mem H w0 L w'→K v w'):df P w (Ah (fv f) args) ext K:=
 El fun w1 hd=>Ej (hc w1 (h.drawn hd)) fun en w' ⟨he,hs⟩=>by
  subst he
  have hx:Ext w w':=hd.ext.trans (hs.only.mono fun _ _ ⟨_,hm,_⟩=>by cases hm)
  exact⟨fun _=>hx,hk w' hx ((h.drawn hd).call0 hs)⟩
theorem Bi {f:Nat} {args:List Value} {Q:Value→World→Prop} [hf:FunC P f] (hc:Calls P f args.toArray w fun en w'=>∃ v,en=.returned v∧Q v w') (hk:∀ v w',Q v w'→K v w'):mop P (Ah (fv f) args) w K X:=
 Ej hc fun en w' ⟨v,he,hq⟩=>by
  subst he
  exact hk v w' hq
theorem La {f:Nat} {args:List Value} {Q:Value→World→Prop} (h:Mem H w0 L w) [hf:FunC P f] (hc:∀ w,Mem H w0 L w→Calls P f args.toArray w fun en w'=>∃ v,en=.returned v∧Q v w') (hk:∀ v w',Q v w'→K v w'):df P w (Ah (fv f) args) false K:=
 El fun w1 hd=>Ej (hc w1 (h.drawn hd)) fun en w' ⟨v,he,hq⟩=>by
  subst he
  exact⟨(fun e=>by cases e),hk v w' hq⟩
theorem aYx (fn:Fn) (a b:List Value) (hfn:∃ f,fn=.func f):Pur P (Gc fn a b) (.func fn a.toArray b.toArray):=fun w=>by
 obtain⟨f,rfl⟩:=hfn
 simp[Gc,sv,Instr.makeFunc]
instance (f:Nat) (a b:List Value):StepC P (Gc (.func f) a b) True (.func (.func f) a.toArray b.toArray):=⟨fun _=>aYx _ a b ⟨f,rfl⟩⟩
theorem En {f:Nat} {first captured:Array Value} {args:List Value} {Q:Ending→World→Prop} [hf:FunC P f] (h:Calls P f (first++args.toArray++captured) w Q) (hk:∀ en w',Q en w'→match en with
   | .returned v=>K v w'
   | .panicked c=>X c w'
   | .outgrown=>False):mop P (Ah (.func (.func f) first captured) args) w K X:=by
 constructor
 have hb:=hf.ok
 have hr:(Ah (.func (.func f) first captured) args).run P w=.ok (.enter f (first++args.toArray++captured)) w:=by
  cases hff:P.funcs[f]? with
  | none=>simp[hff]at hb
  | some fn=>
    simp[hff]at hb
    have hb1:¬fn.body=none:=by intro h;rw[h]at hb;simp at hb
    simp[Ah,Deferred.ofValue,invoke,callFunc,hff,go_sem,hb.2,hb1]
 rw[hr]
 exact h.mono fun en w' he=>by
  have:=hk en w' he
  cases en <;> exact this
theorem Xt (d:Nat) (t e:TypeId) (a:Option Addr) (n cp:Nat) (he:P.underlying t=some (.slice e)):(Op.equalIn (d+1) t (.slice a n cp) (.slice none 0 0)).run P w=.ok a.isNone w:=by
 cases a <;> simp[Op.equalIn,run_underlying he]
theorem Lp (d:Nat) (t e:TypeId) (a:Option Addr) (he:P.underlying t=some (.pointer e)):(Op.equalIn (d+1) t (.pointer a) (.pointer none)).run P w=.ok a.isNone w:=by
 cases a <;> simp[Op.equalIn,run_underlying he]
theorem aCw {t:TypeId} {c:Bool} {x y:Value} {b:Bool} (hg:∀ u v,(eqGuard .eql t u v x y).run P w=.ok () w) (hb:binOp .eql t x y=(do pure (.bool (← Op.equal t x y)))) (h:(Op.equalIn 10000 t x y).run P w=.ok b w):(Af .eql t c x y).run P w=.ok (.value (.bool b)) w:=by
 have h':(Op.equal t x y).run P w=.ok b w:=h
 simp only[Af,sv,Sem.run_bind,hg,hb,Result.andThen_ok,h',Sem.run_pure]
theorem aOb {t:TypeId} {c:Bool} {x y:Value} {b:Bool} (hg:∀ u v,(eqGuard .neq t u v x y).run P w=.ok () w) (hb:binOp .neq t x y=(do pure (.bool !(← Op.equal t x y)))) (h:(Op.equalIn 10000 t x y).run P w=.ok b w):(Af .neq t c x y).run P w=.ok (.value (.bool !b)) w:=by
 have h':(Op.equal t x y).run P w=.ok b w:=h
 simp only[Af,sv,Sem.run_bind,hg,hb,Result.andThen_ok,h',Sem.run_pure]
theorem aQz (t:TypeId) (c:Bool) (a:Option Addr) (n cp e:Nat) (he:P.underlying t=some (.slice e)):Pur P (Af .eql t c (.slice a n cp) (.slice none 0 0)) (.bool a.isNone):=fun w=>
 aCw (fun _ _=>by simp only[eqGuard];rfl) (by simp only[binOp]) (Xt (P:=P) (w:=w) 9999 t e a n cp he)
theorem aCx (t:TypeId) (c:Bool) (a:Option Addr) (e:TypeId) (he:P.underlying t=some (.pointer e)):Pur P (Af .eql t c (.pointer a) (.pointer none)) (.bool a.isNone):=fun w=>
 aCw (fun _ _=>by simp only[eqGuard];rfl) (by simp only[binOp]) (Lp (P:=P) (w:=w) 9999 t e a he)
theorem Zj (t:TypeId) (c:Bool) (a:Option Addr) (e:TypeId) (he:P.underlying t=some (.pointer e)):Pur P (Af .neq t c (.pointer a) (.pointer none)) (.bool (!a.isNone)):=fun w=>
 aOb (fun _ _=>by simp only[eqGuard];rfl) (by simp only[binOp]) (Lp (P:=P) (w:=w) 9999 t e a he)
end
end Go.Proofs.YtgbenhmdamnmcaaGreat
namespace Go.Proofs.YtgbenhmdamnmcaaGreat
open Go.Proofs.Tryz
open Go.RowKit
def hzero:H32:=⟨List.replicate 32 0,by simp,by intro x hx;rw[List.eq_of_mem_replicate hx];omega⟩
class EqF (fs gs:List Fd) (ks:outParam (List CK)) (p:outParam Prop):Prop where
 ok:Of (fl fs) ks∧Of (fl gs) ks∧(fl fs=fl gs↔p)
theorem aVj {a b:Value} {k:CK} {x y:List Value} {ks:List CK} {p q:Prop} (h:Of [a] [k]∧Of [b] [k]∧(a=b↔p)) (h':Of x ks∧Of y ks∧(x=y↔q)):Of ([a]++x) (k::ks)∧Of ([b]++y) (k::ks)∧([a]++x=[b]++y↔p∧q):=
 ⟨h.1.app h'.1,h.2.1.app h'.2.1,by rw[← h.2.2,← h'.2.2];simp⟩
theorem aYy (k:IntKind) (a b:Int):Of [.int k a] [.int k]∧Of [.int k b] [.int k]∧(Value.int k a=.int k b↔a=b):=⟨rfl,rfl,by simp⟩
instance (k:IntKind) (a b:Int) (fs gs:List Fd) (ks:List CK) (p:Prop) [h:EqF fs gs ks p]:EqF (.one (.int k a)::fs) (.one (.int k b)::gs) (.int k::ks) (a=b∧p):=⟨aVj (aYy k a b) h.ok⟩
theorem EqF.last {f g:Fd} {k:List CK} {p:Prop} (h:Of f.cells k∧Of g.cells k∧(f.cells=g.cells↔p)):Of (fl [f]) k∧Of (fl [g]) k∧(fl [f]=fl [g]↔p):=by simpa [fl] using h
instance (priority:=1100) (a b:ByteArray):EqF [.one (.string a)] [.one (.string b)] [.str] (a=b):=⟨EqF.last ⟨rfl,rfl,by simp[Fd.cells]⟩⟩
theorem Oj (h:H32):Of (u8s h.1) (List.replicate 32 (.int .u8)):=by have:=aYt h.1;rwa [h.2.1]at this
theorem aEf {a b:H32}:u8s a.1=u8s b.1↔a=b:=by rw[aVg];exact Subtype.ext_iff.symm
instance (a b:H32) (fs gs:List Fd) (ks:List CK) (p:Prop) [h:EqF fs gs ks p]:EqF (.arr 32 (u8s a.1)::fs) (.arr 32 (u8s b.1)::gs) (List.replicate 32 (.int .u8)++ks) (a=b∧p):=⟨by
 obtain⟨h1,h2,h3⟩:=h.ok
 refine⟨(Oj a).app h1,(Oj b).app h2,?_⟩
 show u8s a.1++fl fs=u8s b.1++fl gs↔_
 rw[← h3,← aEf]
 constructor
 ·intro e
  exact List.append_inj e (by simp[u8s,a.2.1,b.2.1])
 ·rintro⟨e1,e2⟩
  rw[e1,e2]⟩
instance (priority:=1100) (a b:H32):EqF [.arr 32 (u8s a.1)] [.arr 32 (u8s b.1)] (List.replicate 32 (.int .u8)) (a=b):=⟨EqF.last ⟨Oj a,Oj b,aEf⟩⟩
section
variable {P:Program} {t:TypeId} {q:Bool}
instance (fs gs:List Fd) (ks:List CK) (p:Prop) [Decidable p] [h:EqF fs gs ks p] [k:KindC P t ks]:StepC P (Af .eql t q (.agg (fl fs).toArray) (.agg (fl gs).toArray)) True (.bool (decide p)):=⟨fun _=>aCu q h.ok.1 h.ok.2.1 h.ok.2.2⟩
instance (a b:H32) [k:KindC P t (List.replicate 32 (.int .u8))]:StepC P (Af .eql t q (.agg (u8s a.1).toArray) (.agg (u8s b.1).toArray)) True (.bool (decide (a=b))):=⟨fun _=>aCu q (Oj a) (Oj b) aEf⟩
class IsSl (P:Program) (t:TypeId):Prop where
 ok:∃ e,P.underlying t=some (.slice e)
class IsPt (P:Program) (t:TypeId):Prop where
 ok:∃ e,P.underlying t=some (.pointer e)
theorem Pv {P:Program} {t:TypeId} (h:(match P.underlying t with
  | some (.slice _)=>true
  | _=>false)=true):IsSl P t:=⟨by
 split at h
 ·rename_i e hu;exact⟨e,hu⟩
 ·cases h⟩
theorem Su {P:Program} {t:TypeId} (h:(match P.underlying t with
  | some (.pointer _)=>true
  | _=>false)=true):IsPt P t:=⟨by
 split at h
 ·rename_i e hu;exact⟨e,hu⟩
 ·cases h⟩
instance (a:Option Addr) (n c:Nat) [h:IsSl P t]:StepC P (Af .eql t q (.slice a n c) (.slice none 0 0)) True (.bool a.isNone):=⟨fun _=>by obtain⟨e,he⟩:=h.ok;exact aQz t q a n c e he⟩
instance (a:Addr) [h:IsPt P t]:StepC P (Af .eql t q (.pointer (some a)) (.pointer none)) True (.bool false):=⟨fun _=>by obtain⟨e,he⟩:=h.ok;exact aCx t q (some a) e he⟩
instance (a:Addr) [h:IsPt P t]:StepC P (Af .neq t q (.pointer (some a)) (.pointer none)) True (.bool true):=⟨fun _=>by obtain⟨e,he⟩:=h.ok;exact Zj t q (some a) e he⟩
instance [h:IsPt P t]:StepC P (Af .eql t q (.pointer none) (.pointer none)) True (.bool true):=⟨fun _=>by obtain⟨e,he⟩:=h.ok;exact aCx t q none e he⟩
instance [h:IsPt P t]:StepC P (Af .neq t q (.pointer none) (.pointer none)) True (.bool false):=⟨fun _=>by obtain⟨e,he⟩:=h.ok;exact Zj t q none e he⟩
end
end Go.Proofs.YtgbenhmdamnmcaaGreat
namespace Go.Proofs.YtgbenhmdamnmcaaGreat
open Go.Proofs.Tryz
open Go.RowKit
section
variable {P:Program} {s:Sem Next} {c p:Prop} [Decidable p] {v:Value} {w w' w0:World} {K:Value→World→Prop} {X:List PanicEntry→World→Prop} {Kq:Value→Prop} {t:TypeId} {q:Bool}
theorem Bt [h:StepC P s c (.bool (decide p))] (hc:c) (hp:p) (hk:K (.bool true) w):mop P s w K X:=Ab (h:=h) hc (by rw[decide_eq_true hp];exact hk)
theorem Bm [h:StepC P s c (.bool (decide p))] (hc:c) (hp:¬p) (hk:K (.bool false) w):mop P s w K X:=Ab (h:=h) hc (by rw[decide_eq_false hp];exact hk)
theorem Aw [h:StepC P s c (.bool (decide p))] (hc:c) (ht:p→K (.bool true) w) (hf:¬p→K (.bool false) w):mop P s w K X:=Ab (h:=h) hc (by
 by_cases hp:p
 ·rw[decide_eq_true hp];exact ht hp
 ·rw[decide_eq_false hp];exact hf hp)
theorem Wo [h:StepC P s c (.bool (decide p))] (hc:c) (hp:p) (hk:Kq (.bool true)):dp P s Kq:=Ap (h:=h) hc (by rw[decide_eq_true hp];exact hk)
theorem Wp [h:StepC P s c (.bool (decide p))] (hc:c) (hp:¬p) (hk:Kq (.bool false)):dp P s Kq:=Ap (h:=h) hc (by rw[decide_eq_false hp];exact hk)
theorem aRa [h:StepC P s c (.bool (decide p))] (hc:c) (ht:p→Kq (.bool true)) (hf:¬p→Kq (.bool false)):dp P s Kq:=Ap (h:=h) hc (by
 by_cases hp:p
 ·rw[decide_eq_true hp];exact ht hp
 ·rw[decide_eq_false hp];exact hf hp)
theorem Ct {α β:Type} {f:α→β} {l:List α} {i:Nat} (h:i<l.length):(l.map f)[i]?=some (f l[i]):=by simp[h]
theorem By {α β:Type} {f:α→β} {l:List α} {i:Nat} (h:i<l.length):(l.map f)[(i:Int).toNat]?=some (f l[i]):=by simp[h]
class RmB (L:List Res) (g:Nat) (R:outParam (List Res)):Prop where
 perm:∃ r,L.Perm (r::R)
instance (L:List Res) (g t:Nat) (fs:List Fd):RmB (fb g t fs::L) g L:=⟨⟨_,.refl _⟩⟩
instance (priority:=900) (L R:List Res) (g:Nat) (x:Res) [h:RmB L g R]:RmB (x::L) g (x::R):=⟨by
 obtain⟨r,h⟩:=h.perm
 exact⟨r,(h.cons x).trans (.swap ..)⟩⟩
theorem Mem.rm {H:Hp} {L R:List Res} (h:Mem H w0 L w) (g:Nat) [k:RmB L g R]:Mem H w0 R w:=by
 obtain⟨r,hp⟩:=k.perm
 exact(h.perm hp).drop
class AtA (L:List Res) (A:Option Addr) (n cap e sz:outParam Nat) (ps:outParam (List (List Fd))) (R:outParam (List Res)):Prop where
 perm:L.Perm (rowR e sz A n cap ps::R)
instance (L:List Res) (A:Option Addr) (n cap e sz:Nat) (ps:List (List Fd)):AtA (rowR e sz A n cap ps::L) A n cap e sz ps L:=⟨.refl _⟩
instance (priority:=900) (L R:List Res) (A:Option Addr) (n cap e sz:Nat) (ps:List (List Fd)) (x:Res) [h:AtA L A n cap e sz ps R]:AtA (x::L) A n cap e sz ps (x::R):=⟨(h.perm.cons x).trans (.swap ..)⟩
class AtF (L:List Res) (g:Nat) (t:outParam Nat) (fs:outParam (List Fd)) (R:outParam (List Res)):Prop where
 perm:L.Perm (fb g t fs::R)
instance (L:List Res) (g t:Nat) (fs:List Fd):AtF (fb g t fs::L) g t fs L:=⟨.refl _⟩
instance (priority:=900) (L R:List Res) (g t:Nat) (fs:List Fd) (x:Res) [h:AtF L g t fs R]:AtF (x::L) g t fs (x::R):=⟨(h.perm.cons x).trans (.swap ..)⟩
theorem Mem.up {H:Hp} {L R:List Res} {n cap e sz:Nat} {ps:List (List Fd)} (h:Mem H w0 L w) (A:Option Addr) [k:AtA L A n cap e sz ps R]:Mem H w0 (rowR e sz A n cap ps::R) w:=h.perm k.perm
theorem Mem.upB {H:Hp} {L R:List Res} {t:Nat} {fs:List Fd} (h:Mem H w0 L w) (g:Nat) [k:AtF L g t fs R]:Mem H w0 (fb g t fs::R) w:=h.perm k.perm
theorem Mem.fz1 {H:Hp} {L R:List Res} {n cap e sz:Nat} {ps:List (List Fd)} (h:Mem H w0 L w) (A:Option Addr) [k:AtA L A n cap e sz ps R]:∃ H',Le w0 H H'∧Mem H' w0 R w∧Sl H' sz A ps∧ps.length=n:=h.freeze ⟨k.perm⟩
theorem Mem.neA {H:Hp} {L R R':List Res} {n cap e sz tt k:Nat} {ps:List (List Fd)} {fs:List Fd} {A:Option Addr} (h:Mem H w0 L w) [a:AtA L A n cap e sz ps R] [b:AtF R k tt fs R']:¬A=some ⟨k,0,none⟩:=
 Mem.ne (put:=fun r=>r::R') (h.perm (a.perm.trans (b.perm.cons _))) (A:=A) (n:=n) (cap:=cap) (e:=e) (sz:=sz) (ps:=ps) (R:=fb k tt fs::R') ⟨.refl _⟩ ⟨⟨R',.refl _,fun _=>.refl _⟩⟩
theorem Mem.fz0 {H:Hp} {L:List Res} {n cap e sz:Nat} {ps:List (List Fd)} {A:Option Addr} (h:Mem H w0 (rowR e sz A n cap ps::L) w):∃ H',Le w0 H H'∧Mem H' w0 L w∧Sl H' sz A ps∧ps.length=n:=h.freeze ⟨.refl _⟩
theorem aVk {H:Hp} {L R R':List Res} {n cap m capx e e' ex sz by_ t tx ty:Nat} {ps qs:List (List Fd)} {A B:Option Addr} {ks:List Bool} (h:Mem H w0 L w) [c:SliC P t e sz by_] [k:AtA L A n cap e sz ps R] [k':AtA R B m capx ex sz qs R'] [cx:SliC P tx e' sz by_] (hb:n+m≤9223372036854775807∧(n+m)*by_≤140737488355328)
  (hk:∀ A' cap' w',Mem H w0 (rowR e sz A' (n+m) cap' (ps++qs)::R) w'→K (.slice A' (n+m) cap') w'):mop P (Ak .append #[t,tx] ty ks [.slice A n cap,.slice B m capx]) w K X:=by
 have h2:=h.perm k.perm
 have kx:AtR (rowR e sz A n cap ps::R) B m capx ex sz qs (rowR e sz A n cap ps::R'):=⟨(k'.perm.cons _).trans (.swap ..)⟩
 obtain⟨h3,_,_,h4⟩:=h2.rowLen kx
 exact Zh h ⟨k.perm⟩ (h2.src kx cx.und capx) h4 h3 hb.1 hb.2 hk
theorem Mem.reads {H:Hp} {L R:List Res} {n cap e sz:Nat} {ps:List (List Fd)} {A:Option Addr} (h:Mem H w0 L w) [k:AtA L A n cap e sz ps R]:Sl (Hp.of w) sz A ps:=by
 obtain⟨B,⟨B1,B2,rfl,⟨h1,h2,h3⟩,_⟩,hs,_⟩:=(h.perm k.perm).own
 rcases h3 with ⟨_,hn,_,_⟩|⟨g,sp,rfl,rfl,_⟩
 ·have:ps=[]:=List.eq_nil_of_length_eq_zero (by omega)
  subst this
  exact Sl.nil _ _ _
 ·obtain⟨fr,hb,_⟩:=hs.own ⟨g,e,fls ps++sp,true⟩ (by simp)
  refine⟨h1,.inr ⟨g,0,(fls ps++sp).toArray,rfl,by simp[Hp.of,hb],fun j u hu=>?_⟩⟩
  rw[Nat.zero_add]
  simp only[List.getElem?_toArray]
  rw[List.getElem?_append_left (List.getElem?_eq_some_iff.1 hu).1]
  exact hu
theorem Nd {H:Hp} {L:List Res} {f:Nat} {args:List Value} {ext:Bool} {Q:Value→World→Prop} (h:Mem H w0 L w) [hf:FunC P f] (hc:∀ w,Mem H w0 L w→Calls P f args.toArray w fun en w'=>∃ v,en=.returned v∧Ext w w'∧Q v w') (hk:∀ v w',Ext w w'→Q v w'→K v w'):df P w (Ah (fv f) args) ext K:=
 El fun w1 hd=>Ej (hc w1 (h.drawn hd)) fun en w' ⟨v,he,hx,hq⟩=>by
  subst he
  exact⟨fun _=>hd.ext.trans hx,hk v w' (hd.ext.trans hx) hq⟩
class SubL (L L':List Res):Prop where
 ok:∃ R,L.Perm (R++L')
instance (L:List Res):SubL L []:=⟨⟨L,by simp⟩⟩
instance (priority:=1100) (L:List Res):SubL L L:=⟨⟨[],.refl _⟩⟩
instance (priority:=900) (L R L':List Res) (r:Res) [h:AtX L r R] [k:SubL R L']:SubL L (r::L'):=⟨by
 obtain⟨Q,hq⟩:=k.ok
 exact⟨Q,h.perm.trans ((hq.cons r).trans List.perm_middle.symm)⟩⟩
theorem Mem.sub {H:Hp} {L L':List Res} (h:Mem H w0 L w) [k:SubL L L']:Mem H w0 L' w:=by
 obtain⟨R,hp⟩:=k.ok
 exact(h.perm hp).dropN
structure FbF (H:Hp) (g:Nat) (fs:List Fd):Prop where
 ok:FOk fs
 at_:∃ c:Array Value,H g=some c∧∀ (j:Nat) (u:Value),(fl fs)[j]?=some u→c[j]?=some u
theorem Mem.readsB {H:Hp} {L R:List Res} {tt:Nat} {fs:List Fd} {g:Nat} (h:Mem H w0 L w) [k:AtF L g tt fs R]:FbF (Hp.of w) g fs:=by
 obtain⟨B,⟨B1,B2,rfl,⟨h1,rfl⟩,_⟩,hs,_⟩:=(h.perm k.perm).own
 obtain⟨fr,hb,_⟩:=hs.own ⟨g,tt,fl fs,true⟩ (by simp)
 exact⟨h1,(fl fs).toArray,by simp[Hp.of,hb],fun j u hu=>by simpa using hu⟩
theorem FbF.mono {H H':Hp} {g:Nat} {fs:List Fd} (h:FbF H g fs) (k:H.le H'):FbF H' g fs:=by
 obtain⟨c,h1,h2⟩:=h.at_
 exact⟨h.ok,c,k g c h1,h2⟩
theorem FbF.load {H:Hp} {g i n:Nat} {fs gs:List Fd} {q:Bool} {v:Value} (h:FbF H g fs) (hf:Fz H w) (c:ShpC P t q n) (s:Sub fs i n gs) (f:Fv q gs v):PurW P w (Ad t (.pointer (some ⟨g,i,none⟩))) v:=by
 obtain⟨c',h1,h2⟩:=h.at_
 obtain⟨k1,k2,k3⟩:=s.cells h.ok
 exact Iy c.ok k1 (by rw[← k1.len];exact k2) f fun j u hu=>by rw[hf.cell h1];exact h2 _ _ (k3 j u hu)
theorem Ux {H:Hp} {L:List Res} {g i n:Nat} {fs gs:List Fd} {q:Bool} {v:Value} (hM:Mem H w0 L w) (h:FbF H g fs) [c:ShpC P t q n] [s:Sub fs i n gs] [f:Fv q gs v] (hk:Kq v):dq P w (Ad t (.pointer (some ⟨g,i,none⟩))) Kq:=
 Kx (fun _ hw=>h.load (hM.fz.ext hw) c s f) hk
abbrev Mem.now {H:Hp} {L:List Res} (_:Mem H w0 L w) (w':World):Prop:=Mem H w0 L w'
theorem Av {run:(Value→World→Prop)→Prop} (h:K undef w):mguard (.bool true) false run w K:=Uw (by simp) h
theorem Bv {run:(Value→World→Prop)→Prop} (h:K undef w):mguard (.bool false) true run w K:=Uw (by simp) h
theorem Iz {run:(Value→Prop)→Prop} (h:Kq undef):qguard (.bool false) true run Kq:=aNx (by simp) h
instance (b:Bool):StepC P (Cz .not (.bool b)) True (.bool (!b)):=⟨fun _ w=>by simp[Cz,sv,go_sem]⟩
instance (priority:=1100) (fs gs:List Fd) (ks:List CK) [h:EqF fs gs ks p] [k:KindC P t ks]:StepC P (Af .neq t q (.agg (fl fs).toArray) (.agg (fl gs).toArray)) True (.bool (decide (¬p))):=⟨fun _=>by
 have:=aCv (P:=P) (t:=t) q h.ok.1 h.ok.2.1 h.ok.2.2
 rwa [show(!decide p)=decide (¬p) by simp]at this⟩
instance (priority:=1100) (a b:H32) [k:KindC P t (List.replicate 32 (.int .u8))]:StepC P (Af .neq t q (.agg (u8s a.1).toArray) (.agg (u8s b.1).toArray)) True (.bool (decide (a≠b))):=⟨fun _=>by
 have:=aCv (P:=P) (t:=t) q (Oj a) (Oj b) aEf
 rwa [show(!decide (a=b))=decide (a≠b) by simp]at this⟩
instance (a b:Value):StepC P (As (.tuple #[a,b]) 0) True a:=⟨fun _=>Fj [a,b] 0 a rfl⟩
instance (a b:Value):StepC P (As (.tuple #[a,b]) 1) True b:=⟨fun _=>Fj [a,b] 1 b rfl⟩
instance (a b c:Value):StepC P (As (.tuple #[a,b,c]) 0) True a:=⟨fun _=>Fj [a,b,c] 0 a rfl⟩
instance (a b c:Value):StepC P (As (.tuple #[a,b,c]) 1) True b:=⟨fun _=>Fj [a,b,c] 1 b rfl⟩
instance (a b c:Value):StepC P (As (.tuple #[a,b,c]) 2) True c:=⟨fun _=>Fj [a,b,c] 2 c rfl⟩
def hset (h:H32) (i:Nat) (a:Int):H32:=⟨h.1.set i (a%256),by simp[h.2.1],fun x hx=>by
 rcases List.mem_or_eq_of_mem_set hx with hx|rfl
 ·exact h.2.2 x hx
 ·omega⟩
theorem aVl (h:H32) (i:Nat) (a:Int) (hi:i<32) (ha:0≤a∧a<256):lay (u8s h.1) [.int .u8 a] i=u8s (hset h i a).1:=by
 have e:a%256=a:=by omega
 unfold hset u8s lay
 simp only[e]
 rw[List.set_eq_take_append_cons_drop,if_pos (by simp[h.2.1,hi])]
 simp
class HFill (P:Program) (t:TypeId) (h:H32) (ps:List (Nat × Value)) (c:outParam Prop) (h':outParam H32):Prop where
 ok:c→Instr.fill (fun i=>some (i*1,1)) (u8s h.1).toArray ps=some (u8s h'.1).toArray
instance (h:H32):HFill P t h [] True h:=⟨fun _=>rfl⟩
instance (h h':H32) (i:Nat) (a:Int) (ps:List (Nat × Value)) (c:Prop) [k:HFill P t (hset h i a) ps c h']:HFill P t h ((i,.int .u8 a)::ps) ((i<32∧0≤a∧a<256)∧c) h':=⟨fun⟨⟨h1,h2⟩,hc⟩=>by
 have hl:(u8s h.1).length=32:=by simp[u8s,h.2.1]
 have:=Zf (.int .u8 a) (i*1) (u8s h.1) (by simp[Value.cells,hl];omega)
 unfold Instr.fill
 simp only
 rw[if_neg (by simp[Value.cells,hl];omega),this]
 have e:lay (u8s h.1) (Value.cells (.int .u8 a)).toList (i*1)=u8s (hset h i a).1:=by rw[Nat.mul_one];exact aVl h i a h1 h2
 rw[e]
 exact k.ok hc⟩
class HshC (P:Program) (t:TypeId):Prop where
 ok:∃ e,P.underlying t=some (.array 32 e)∧(P.info? e).map (·.size)=some 1
 zer:zer P t=some (u8s hzero.1)
instance (priority:=1100) (ps:List (Nat × Value)) (c:Prop) (h':H32) [k:HshC P t] [f:HFill P t hzero ps c h']:StepC P (At t ps) c (.agg (u8s h'.1).toArray):=⟨fun hc w=>by
 obtain⟨e,hu,hs⟩:=k.ok
 have hz:=k.zer
 have hf:=f.ok hc
 unfold Go.Proofs.YtgbenhmdamnmcaaGreat.zer at hz
 cases hi:P.info? t with
 | none=>simp[hi]at hz
 | some x=>
   cases hzz:x.zero with
   | none=>simp[hi,hzz]at hz
   | some z=>
     simp[hi,hzz]at hz
     have hz':z.cells=(u8s hzero.1).toArray:=by rw[← hz]
     have h1:(zeroValue t).run P w=.ok z w:=by simp[zeroValue,typeInfo,hi,hzz]
     have h2:(sizeOf e).run P w=.ok 1 w:=Ch hs w
     simp only[At,sv,Instr.build,Sem.run_bind,h1,Result.andThen_ok,run_underlying hu,hz',h2]
     rw[hf]
     rfl⟩
end
end Go.Proofs.YtgbenhmdamnmcaaGreat
namespace Go.Proofs.YtgbenhmdamnmcaaGreat
open Go.Proofs.Tryz
open Go.RowKit
def byts (l:List Int):List (List Fd):=l.map fun x=>[.one (.int .u8 x)]
theorem Ol (a b:List Int):byts (a++b)=byts a++byts b:=by simp[byts]
theorem Ig (l:List Int):(byts l).length=l.length:=by simp[byts]
theorem Jg (l:List Int):fls (byts l)=u8s l:=by
 induction l with
 | nil=>rfl
 | cons x l ih=>
   show fl [.one (.int .u8 x)]++fls (byts l)=_
   rw[ih]
   rfl
theorem Sv (l:List Int):Els 1 (byts l):=Els.map (f:=fun x=>[.one (.int .u8 x)]) l fun _=>⟨inferInstance,rfl⟩
class StrC (P:Program) (s d:TypeId):Prop where
 ok:(∃ e,P.underlying s=some (.slice e)∧P.underlying e=some (.int .u8))∧P.underlying d=some .string
section
variable {P:Program} {H H':Hp} {w0 w w':World} {L R R':List Res} {g i:Nat} {t t' tx ty:TypeId} {fs gs:List Fd} {put:Res→List Res} {n m c cap e e' sz by_:Nat} {K:Value→World→Prop} {X:List PanicEntry→World→Prop} {Kq:Value→Prop} {A:Option Addr} {l l':List Int} {ps:List (List Fd)} {ks:List Bool}
theorem Zk {s d:TypeId} (h:StrC P s d) {b o:Nat} (hl:l.length=n) (hc:∀ j u,(u8s l)[j]?=some u→w.cell? ⟨b,o+j,none⟩=some u):PurW P w (Ay s d (.slice (some ⟨b,o,none⟩) n c)) (.string (strOfNums l)):=by
 obtain⟨⟨e,h1,h2⟩,h3⟩:=h.ok
 exact Do s d e b o n c l h1 h2 h3 hl fun j hj=>hc j _ (In l j (by omega))
theorem Mem.bytesF (h:Mem H w0 L w) (k:AtB L g t' fs put) (s:Sub fs i n [.arr n (u8s l)]):l.length=n∧∀ j u,(u8s l)[j]?=some u→w.cell? ⟨g,i+j,none⟩=some u:=by
 obtain⟨h1,h2,h3⟩:=h.field k s
 have:=(h1.ok _ (List.mem_singleton.2 rfl)).len
 refine⟨by simpa [Fd.cells,Fd.size,u8s] using this,fun j u hu=>h3 j u (by simpa [fl,Fd.cells] using hu)⟩
theorem Jh {s d:TypeId} (h:Mem H w0 L w) [st:StrC P s d] [k:AtB L g t' fs put] [q:Sub fs i n [.arr n (u8s l)]] (hk:K (.string (strOfNums l)) w):mop P (Ay s d (.slice (some ⟨g,i,none⟩) n c)) w K X:=by
 obtain⟨h1,h2⟩:=h.bytesF k q
 exact Dz (Zk st h1 h2) hk
theorem Cw {s d:TypeId} (h:Mem H w0 L w) [st:StrC P s d] [k:AtB L g t' fs put] [q:Sub fs i n [.arr n (u8s l)]] (hk:Kq (.string (strOfNums l))):dq P w (Ay s d (.slice (some ⟨g,i,none⟩) n c)) Kq:=by
 obtain⟨h1,h2⟩:=h.bytesF k q
 exact Kx (fun _ hw=>Zk st h1 fun j u hu=>hw.cell (h2 j u hu)) hk
theorem Mem.rd (h:Mem H w0 L w) (k:AtA L A n cap e sz ps R):Rd w A (fls ps):=by
 rcases Nat.eq_zero_or_pos n with hn|hn
 ·have:=(h.rowLen (A:=A) (n:=n) ⟨k.perm⟩).1
  have:ps=[]:=List.eq_nil_of_length_eq_zero (by omega)
  subst this
  exact .inl rfl
 ·obtain⟨g,rfl⟩:=h.rowAt (n:=n) ⟨k.perm⟩ hn
  have hc:=(h.perm k.perm).rowCells (put:=fun r=>r::R) ⟨⟨R,.refl _,fun _=>.refl _⟩⟩
  have hlt:g<w.heap.size:=by
   obtain⟨B,⟨B1,B2,rfl,⟨_,_,h3⟩,_⟩,hs,_⟩:=(h.perm k.perm).own
   rcases h3 with ⟨hA,_⟩|⟨g',sp,hA,rfl,_⟩
   ·cases hA
   ·cases hA
    exact(hs.own ⟨g,e,fls ps++sp,true⟩ (by simp)).lt
  exact .inr ⟨g,0,rfl,hlt,fun j u hu=>by rw[Nat.zero_add];exact hc.2.2 j u hu⟩
theorem Rk {s d:TypeId} {k:Nat} (h:Mem H w0 L w) [st:StrC P s d] [a:AtA L A n cap e 1 (byts l) R] (hk':k≤l.length) (hk:K (.string (strOfNums (l.take k))) w):mop P (Ay s d (.slice A k c)) w K X:=by
 have hr:=h.rd a
 rw[Jg]at hr
 rcases Nat.eq_zero_or_pos k with h0|h0
 ·subst h0
  obtain⟨⟨e,h1,h2⟩,h3⟩:=st.ok
  refine Dz ?_ hk
  cases A with
  | none=>
    have:(convert s d (.slice none 0 c)).run P w=.ok (.string (strOfNums [])) w:=by
     rw[run_convert_bytes_string w s d e none 0 c h1 h2 h3]
     rfl
    simp only[PurW,Ay,sv,Sem.run_bind,this,Result.andThen_ok]
    rfl
  | some a'=>
    have:=run_convert_bytes_back (P:=P) w s d e a' c [] h1 h2 h3 (fun j hj=>by simp at hj)
    simp only[PurW,Ay,sv,Sem.run_bind]
    rw[show([]:List UInt8).length=0 from rfl]at this
    rw[this]
    rfl
 ·rcases hr with hr|⟨b,o,rfl,_,hc⟩
  ·have:l=[]:=by simpa [u8s] using hr
   subst this
   simp at hk'
   omega
  ·refine Dz (Zk st (by simp;omega) fun j u hu=>hc j u ?_) hk
   have hj:j<k:=by have:=(List.getElem?_eq_some_iff.1 hu).1;simp[u8s]at this;omega
   rw[show u8s (l.take k)=(u8s l).take k by simp[u8s,List.map_take],List.getElem?_take]at hu
   simpa [hj] using hu
class SubA (fs:List Fd) (o:Nat) (n:outParam Nat) (ls:outParam (List Value)) (put:outParam (List Value→List Fd)):Prop where
 ok:∃ a b,fs=a++[.arr n ls]++b∧fsz a=o∧∀ l',put l'=a++[.arr n l']++b
instance (fs:List Fd) (n:Nat) (ls:List Value):SubA (.arr n ls::fs) 0 n ls (fun l'=>.arr n l'::fs):=⟨⟨[],fs,rfl,rfl,fun _=>rfl⟩⟩
instance (fs:List Fd) (o n:Nat) (ls:List Value) (v:Value) (put:List Value→List Fd) [h:SubA fs o n ls put]:SubA (.one v::fs) (o+1) n ls (fun l'=>.one v::put l'):=⟨by
 obtain⟨a,b,rfl,rfl,h3⟩:=h.ok
 exact⟨.one v::a,b,rfl,by simp[fsz,Fd.size];omega,fun l'=>by rw[h3];rfl⟩⟩
instance (fs:List Fd) (o n:Nat) (ls l:List Value) (put:List Value→List Fd) [h:SubA fs o n ls put]:SubA (.arr 32 l::fs) (o+32) n ls (fun l'=>.arr 32 l::put l'):=⟨by
 obtain⟨a,b,rfl,rfl,h3⟩:=h.ok
 exact⟨.arr 32 l::a,b,rfl,by simp[fsz,Fd.size];omega,fun l'=>by rw[h3];rfl⟩⟩
theorem SubA.cell {fs:List Fd} {o:Nat} {ls:List Value} {putA:List Value→List Fd} (s:SubA fs o n ls putA) (hf:FOk fs) {j:Nat} {v:Value} (hv:ls[j]?=some v):(fl fs)[o+j]?=some v:=by
 obtain⟨a,b,rfl,rfl,_⟩:=s.ok
 have h1:=hf.left.left.len
 rw[Dy,Dy,List.append_assoc,List.getElem?_append_right (by omega),h1,show fsz a+j - fsz a=j by omega]
 rw[List.getElem?_append_left (by have:=(List.getElem?_eq_some_iff.1 hv).1;simpa [fl,Fd.cells] using this)]
 simpa [fl,Fd.cells] using hv
theorem aJj {o j:Nat} {ls:List Value} {v:Value} {putA:List Value→List Fd} (h:Mem H w0 L w) [cc:ShpC P t false 1] [k:AtB L g t' fs put] [s:SubA fs o n ls putA] (hv:ls[j]?=some v) (hk:K v w):mop P (Ad t (.pointer (some ⟨g,o+j,none⟩))) w K X:=by
 obtain⟨hb,hf⟩:=h.blf k
 exact Dz (Sp cc.ok (by rw[hb.cell];exact s.cell hf hv)) hk
theorem aLz (h:Mem H w0 L w) [cc:SliC P t e 1 by_] [k:AtR L A n cap e 1 (byts l) R] [cx:SliC P tx e' 1 by_] [b:AtB L g t' fs put] [q:Sub fs i m [.arr m (u8s l')]] (hb:n+m≤9223372036854775807∧(n+m)*by_≤140737488355328)
  (hk:∀ A' cap' w',Mem H w0 (rowR e 1 A' (n+m) cap' (byts (l++l'))::R) w'→K (.slice A' (n+m) cap') w'):mop P (Ak .append #[t,tx] ty ks [.slice A n cap,.slice (some ⟨g,i,none⟩) m c]) w K X:=by
 obtain⟨h1,h2⟩:=h.bytesF b q
 have hs:Src P 1 tx (.slice (some ⟨g,i,none⟩) m c) m (fls (byts l')) w:=by
  rw[Jg]
  exact Src.ofSlice w cx.und ⟨g,i,none⟩ m c (u8s l') (by simp[u8s,h1]) (fun j u hu=>by rw[Addr.add_lit];exact h2 j u hu) (Fk l')
 refine Zh h k hs (Sv l') (by rw[Ig,h1]) hb.1 hb.2 fun A' cap' w' h3=>hk A' cap' w' (by rwa [Ol])
theorem aVm {s:ByteArray} (h:Mem H w0 L w) [cc:SliC P t e 1 by_] [k:AtR L A n cap e 1 (byts l) R] (hx:P.underlying tx=some .string) (hb:n+s.size≤9223372036854775807∧(n+s.size)*by_≤140737488355328)
  (hk:∀ A' cap' w',Mem H w0 (rowR e 1 A' (n+s.size) cap' (byts (l++ints s))::R) w'→K (.slice A' (n+s.size) cap') w'):mop P (Ak .append #[t,tx] ty ks [.slice A n cap,.string s]) w K X:=by
 have hs:Src P 1 tx (.string s) s.size (fls (byts (ints s))) w:=by
  rw[Jg,← aQx]
  exact Src.ofString w hx s
 refine Zh h k hs (Sv (ints s)) (by rw[Ig,Bq]) hb.1 hb.2 fun A' cap' w' h3=>hk A' cap' w' (by rwa [Ol])
theorem aCy (a:Option Addr):a.map (·.add 0)=a:=by
 cases a with
 | none=>rfl
 | some a=>obtain⟨b,o,s⟩:=a;rfl
instance (a:Option Addr) (n cap:Nat) (kk:IntKind) (hh:Int) [cs:SliS P t sz]:StepC P (Ax t (.slice a n cap) none (some (.int kk hh)) none) (0≤hh∧hh≤cap) (.slice a hh.toNat cap):=⟨fun⟨h0,h1⟩ w=>by
 have h2:=run_slice_h (P:=P) w t a n cap cs.ok.1 kk hh h0 h1
 have h3:(sizeOf (P.elem t)).run P w=.ok sz w:=Ch cs.ok.2 w
 simp only[Ax,sv,Sem.run_bind,run_sliceAt_slice w t _ _ _ _ cs.ok.1,h2,h3,Result.andThen_ok,sliced,Nat.zero_mul,aCy,ite_self,Nat.sub_zero]
 rfl⟩
instance (b o n cap:Nat) (kk:IntKind) (ll:Int) [cs:SliS P t sz]:StepC P (Ax t (.slice (some ⟨b,o,none⟩) n cap) (some (.int kk ll)) none none) (0≤ll∧ll≤n∧ll<cap) (.slice (some ⟨b,o+ll.toNat*sz,none⟩) (n - ll.toNat) (cap - ll.toNat)):=⟨fun⟨h0,h1,h4⟩ w=>by
 have h2:=run_slice_l (P:=P) w t (some ⟨b,o,none⟩) n cap cs.ok.1 kk ll h0 h1
 have h3:(sizeOf (P.elem t)).run P w=.ok sz w:=Ch cs.ok.2 w
 have h5:¬cap=ll.toNat:=by omega
 simp only[Ax,sv,Sem.run_bind,run_sliceAt_slice w t _ _ _ _ cs.ok.1,h2,h3,Result.andThen_ok,sliced,if_neg h5,Option.map_some,Addr.add_lit]
 rfl⟩
instance (a:Option Addr) (n cap:Nat) (kk k2:IntKind) (hh mx:Int) [cs:SliS P t sz]:StepC P (Ax t (.slice a n cap) none (some (.int kk hh)) (some (.int k2 mx))) (0≤hh∧hh≤mx∧mx≤cap) (.slice a hh.toNat mx.toNat):=⟨fun⟨h0,h1,h4⟩ w=>by
 have h2:=run_slice_hm (P:=P) w t a n cap cs.ok.1 kk k2 hh mx h0 h1 h4
 have h3:(sizeOf (P.elem t)).run P w=.ok sz w:=Ch cs.ok.2 w
 simp only[Ax,sv,Sem.run_bind,run_sliceAt_slice w t _ _ _ _ cs.ok.1,h2,h3,Result.andThen_ok,sliced,Nat.zero_mul,aCy,ite_self,Nat.sub_zero]
 rfl⟩
end
end Go.Proofs.YtgbenhmdamnmcaaGreat
namespace Go.Proofs.YtgbenhmdamnmcaaGreat
open Go.Proofs.Tryz
open Go.RowKit Go.ChangeShapes Go.WideShapes
end Go.Proofs.YtgbenhmdamnmcaaGreat
namespace Go.Proofs.YtgbenhmdamnmcaaGreat
open Go.Proofs.Tryz
open Go.RowKit Go.ChangeShapes Go.WideShapes Go.Deep
end Go.Proofs.YtgbenhmdamnmcaaGreat
namespace Go.Proofs.YtgbenhmdamnmcaaGreat
open Go.Proofs.Tryz
open Go.RowKit Go.ChangeShapes Go.WideShapes
end Go.Proofs.YtgbenhmdamnmcaaGreat
namespace Go.Proofs.YtgbenhmdamnmcaaGreat
open Go.Proofs.Tryz
open Go.RowKit Go.ChangeShapes Go.WideShapes Go.Deep
structure Rdr (P:Program) (t:TypeId) (sz:Nat) {α:Type} (rel:Hp→List Fd→α→Prop):Prop where
 size:P.cellsOf t=sz
 read:∀ {H:Type} (enc:TypeId × Value→H) (w:World) (base:Nat) (spare:Nat→Bool) (held:Bool) (n:Nat) (cs:List Value) (y:DataW H × List MemPlace),DataW.trod enc P w base spare held n t cs=some y→∃ fs x,cs=fl fs∧FOk fs∧fsz fs=sz∧rel (Hp.of w) fs x
section
variable {P:Program} {t e:TypeId} {sz:Nat} {α β:Type} {rel:Hp→List Fd→α→Prop}
theorem Rdr.map (h:Rdr P t sz rel) {rel':Hp→List Fd→β→Prop} (hm:∀ H fs x,FOk fs→rel H fs x→∃ y,rel' H fs y):Rdr P t sz rel':=
 ⟨h.size,fun enc w base spare held n cs y hy=>by
  obtain⟨fs,x,h1,h2,h3,h4⟩:=h.read enc w base spare held n cs y hy
  obtain⟨z,hz⟩:=hm _ _ _ h2 h4
  exact⟨fs,z,h1,h2,h3,hz⟩⟩
theorem aVn (ht:P.underlying t=some .string) (hc:P.cellsOf t=1):Rdr P t 1 (fun _ fs (x:ByteArray)=>fs=[.one (.string x)]∧x.size≤maxLen):=
 ⟨hc,fun enc w base spare held n cs y hy=>by
  obtain⟨a,rfl,_,hw⟩:=DataW.trod_string ht hy
  exact⟨[.one (.string a)],a,rfl,inferInstance,rfl,rfl,hw⟩⟩
structure Rdf (P:Program) (fds:List Field) (off sz:Nat) {α:Type} (rel:Hp→List Fd→α→Prop):Prop where
 read:∀ {H:Type} (enc:TypeId × Value→H) (w:World) (base:Nat) (spare:Nat→Bool) (held:Bool) (n:Nat) (cs:List Value),cs.length=off+sz→(∀ f∈fds,∃ y,DataW.trod enc P w base spare held n f.type ((cs.drop f.offset).take (P.cellsOf f.type))=some y)→∃ fs x,cs.drop off=fl fs∧FOk fs∧fsz fs=sz∧rel (Hp.of w) fs x
theorem Rdf.nil (off:Nat):Rdf P [] off 0 (fun _ fs (_:Unit)=>fs=[]):=⟨fun enc w base spare held n cs hl _=>⟨[],(),by rw[List.drop_eq_nil_of_le (by omega)];rfl,inferInstance,rfl,rfl⟩⟩
theorem Rdf.cons {f:Field} {fds:List Field} {off a b s ty:Nat} {rel':Hp→List Fd→β→Prop} (h:Rdr P ty a rel) (hty:f.type=ty) (ho:f.offset=off) (hs:s=b+a) (k:Rdf P fds (off+a) b rel'):Rdf P (f::fds) off s (fun H fs (x:α × β)=>∃ gs hs,fs=gs++hs∧FOk gs∧rel H gs x.1∧rel' H hs x.2):=
 ⟨fun enc w base spare held n cs hl hf=>by
  subst hs;subst hty
  obtain⟨y,hy⟩:=hf f (List.mem_cons_self ..)
  obtain⟨gs,x,h1,h2,h3,h4⟩:=h.read enc w base spare held n _ y hy
  obtain⟨hs,z,k1,k2,k3,k4⟩:=k.read enc w base spare held n cs (by omega) fun g hg=>hf g (List.mem_cons_of_mem _ hg)
  refine⟨gs++hs,(x,z),?_,h2.app k2,by rw[Rj,h3,k3];omega,gs,hs,rfl,h2,h4,k4⟩
  rw[Dy,← h1,← k1,h.size,ho,← List.drop_drop,List.take_append_drop]⟩
def All2 (r:List Fd→α→Prop):List (List Fd)→List α→Prop
 | [],[]=>True
 | p::ps,x::xs=>r p x∧All2 r ps xs
 | _,_=>False
theorem All2.len {r:List Fd→α→Prop}:∀ {ps:List (List Fd)} {xs:List α},All2 r ps xs→ps.length=xs.length
 | [],[],_=>rfl
 | _::_,_::_,h=>by simp[All2.len h.2]
 | [],_::_,h=>h.elim
 | _::_,[],h=>h.elim
theorem aVo {w:World} {r:Reach} {b:Nat} {v u:Value} (hd:(match P.underlying t with
  | some .bool|some (.int _)|some .string|some (.slice _)=>true
  | _=>false)=true) (hv:Value.okWide P w r b t v) (h:v.cells.toList=fl [.one u]):v=u:=by
 have key:∀ cs,v≠.agg cs:=by
  rintro cs rfl
  unfold Value.okWide Cell.okWide Cell.ok at hv
  split at hd
  all_goals first
   | (cases hd;done)
   | (rename_i hu;simp only[hu]at hv)
 cases v <;> first
  | (exact absurd rfl (key _))
  | (simpa [Value.cells,fl,Fd.cells] using h)
end
end Go.Proofs.YtgbenhmdamnmcaaGreat
namespace Go.Proofs.YtgbenhmdamnmcaaGreat
open Go.Proofs.Tryz
def pX (R:Ending→World→Prop):List PanicEntry→World→Prop:=fun c w=>R (.panicked c) w
abbrev m (R:Ending→World→Prop) (s:Sem Next) (w:World) (K:Value→World→Prop):Prop:=mop prog s w K (pX R)
theorem mixed:prog.follows .mixedOrders=true:=by kernel_rfl
abbrev ml1 (a0:Value) (w:World) (F:Value→Env→World→(Value→World→Prop)→Prop):Prop:=
 ∃ (I:Value→World→Prop) (μ:Value→World→Nat),I a0 w∧∀ (x0:Value) (u:Env) (w:World),I x0 w→F x0 u w (fun y0 w2=>I y0 w2∧μ y0 w2<μ x0 w)
abbrev ml2 (a0 a1:Value) (w:World) (F:Value→Value→Env→World→(Value→Value→World→Prop)→Prop):Prop:=
 ∃ (I:Value→Value→World→Prop) (μ:Value→Value→World→Nat),I a0 a1 w∧∀ (x0 x1:Value) (u:Env) (w:World),I x0 x1 w→F x0 x1 u w (fun y0 y1 w2=>I y0 y1 w2∧μ y0 y1 w2<μ x0 x1 w)
abbrev ml3 (a0 a1 a2:Value) (w:World) (F:Value→Value→Value→Env→World→(Value→Value→Value→World→Prop)→Prop):Prop:=
 ∃ (I:Value→Value→Value→World→Prop) (μ:Value→Value→Value→World→Nat),I a0 a1 a2 w∧∀ (x0 x1 x2:Value) (u:Env) (w:World),I x0 x1 x2 w→F x0 x1 x2 u w (fun y0 y1 y2 w2=>I y0 y1 y2 w2∧μ y0 y1 y2 w2<μ x0 x1 x2 w)
abbrev ml9 (a0 a1 a2 a3 a4 a5 a6 a7 a8:Value) (w:World) (F:Value→Value→Value→Value→Value→Value→Value→Value→Value→Env→World→(Value→Value→Value→Value→Value→Value→Value→Value→Value→World→Prop)→Prop):Prop:=
 ∃ (I:Value→Value→Value→Value→Value→Value→Value→Value→Value→World→Prop) (μ:Value→Value→Value→Value→Value→Value→Value→Value→Value→World→Nat),I a0 a1 a2 a3 a4 a5 a6 a7 a8 w∧∀ (x0 x1 x2 x3 x4 x5 x6 x7 x8:Value) (u:Env) (w:World),I x0 x1 x2 x3 x4 x5 x6 x7 x8 w→F x0 x1 x2 x3 x4 x5 x6 x7 x8 u w (fun y0 y1 y2 y3 y4 y5 y6 y7 y8 w2=>I y0 y1 y2 y3 y4 y5 y6 y7 y8 w2∧μ y0 y1 y2 y3 y4 y5 y6 y7 y8 w2<μ x0 x1 x2 x3 x4 x5 x6 x7 x8 w)
abbrev mj0 (F:(World→Prop)→Prop) (G:Env→World→Prop):Prop:=
 ∃ J:World→Prop,F J∧∀ (u:Env) (w:World),J w→G u w
abbrev mj1 (F:(Value→World→Prop)→Prop) (G:Value→Env→World→Prop):Prop:=
 ∃ J:Value→World→Prop,F J∧∀ (x0:Value) (u:Env) (w:World),J x0 w→G x0 u w
abbrev mj2 (F:(Value→Value→World→Prop)→Prop) (G:Value→Value→Env→World→Prop):Prop:=
 ∃ J:Value→Value→World→Prop,F J∧∀ (x0 x1:Value) (u:Env) (w:World),J x0 x1 w→G x0 x1 u w
abbrev mj3 (F:(Value→Value→Value→World→Prop)→Prop) (G:Value→Value→Value→Env→World→Prop):Prop:=
 ∃ J:Value→Value→Value→World→Prop,F J∧∀ (x0 x1 x2:Value) (u:Env) (w:World),J x0 x1 x2 w→G x0 x1 x2 u w
instance:ShpC prog 28 true 166:=⟨by kernel_rfl⟩
instance:FunC prog 9:=⟨by kernel_rfl⟩
instance:FunC prog 8:=⟨by kernel_rfl⟩
instance:FunC prog 10:=⟨by kernel_rfl⟩
instance:FunC prog 11:=⟨by kernel_rfl⟩
instance:FunC prog 13:=⟨by kernel_rfl⟩
instance:KindC prog 23 (List.replicate 32 (.int .u8)):=⟨by kernel_rfl,by kernel_rfl,by kernel_rfl⟩
instance:FunC prog 15:=⟨by kernel_rfl⟩
instance:ZerF prog 23 [.arr 32 (u8s hzero.1)]:=⟨by kernel_rfl,inferInstance⟩
instance:HshC prog 23:=⟨⟨5,by kernel_rfl,by kernel_rfl⟩,by kernel_rfl⟩
instance:FunC prog 16:=⟨by kernel_rfl⟩
instance:ZerF prog 28 [.arr 32 (u8s hzero.1),.one (.int .i64 0),.one (.int .i64 0),.one (.slice none 0 0),.arr 32 (u8s hzero.1),.arr 32 (u8s hzero.1),.one (.slice none 0 0),.one (.string (ByteArray.mk #[])),.one (.slice none 0 0),.arr 32 (u8s hzero.1),.arr 32 (u8s hzero.1)]:=⟨by kernel_rfl,inferInstance⟩
instance:FunC prog 18:=⟨by kernel_rfl⟩
instance (ty:TypeId) (cs:List Bool) (s:ByteArray):StepC prog (Ak .len #[9] ty cs [.string s]) True (.int .i64 s.size):=⟨fun _=>aEb 9 ty cs s (by kernel_rfl)⟩
instance:FunC prog 19:=⟨by kernel_rfl⟩
instance (priority:=1100) (b:Nat):StepC prog (Aa 28 (.pointer (some ⟨b,0,none⟩)) 3) True (.pointer (some ⟨b,34,none⟩)):=⟨fun _=>Au 28 b 0 3 34 1 (by kernel_rfl) (by decide)⟩
instance:ShpC prog 24 false 1:=⟨by kernel_rfl⟩
instance (ty:TypeId) (cs:List Bool) (a:Option Addr) (n c:Nat):StepC prog (Ak .len #[24] ty cs [.slice a n c]) True (.int .i64 n):=⟨fun _=>Cn 24 ty 75 cs a n c (by kernel_rfl)⟩
instance (priority:=1100) (b:Nat):StepC prog (Aa 28 (.pointer (some ⟨b,0,none⟩)) 6) True (.pointer (some ⟨b,99,none⟩)):=⟨fun _=>Au 28 b 0 6 99 1 (by kernel_rfl) (by decide)⟩
instance:ShpC prog 25 false 1:=⟨by kernel_rfl⟩
instance (ty:TypeId) (cs:List Bool) (a:Option Addr) (n c:Nat):StepC prog (Ak .len #[25] ty cs [.slice a n c]) True (.int .i64 n):=⟨fun _=>Cn 25 ty 43 cs a n c (by kernel_rfl)⟩
instance (priority:=1100) (b:Nat):StepC prog (Aa 28 (.pointer (some ⟨b,0,none⟩)) 8) True (.pointer (some ⟨b,101,none⟩)):=⟨fun _=>Au 28 b 0 8 101 1 (by kernel_rfl) (by decide)⟩
instance:ShpC prog 26 false 1:=⟨by kernel_rfl⟩
instance (ty:TypeId) (cs:List Bool) (a:Option Addr) (n c:Nat):StepC prog (Ak .len #[26] ty cs [.slice a n c]) True (.int .i64 n):=⟨fun _=>Cn 26 ty 45 cs a n c (by kernel_rfl)⟩
instance (priority:=1100) (b:Nat):StepC prog (Aa 28 (.pointer (some ⟨b,0,none⟩)) 7) True (.pointer (some ⟨b,100,none⟩)):=⟨fun _=>Au 28 b 0 7 100 1 (by kernel_rfl) (by decide)⟩
instance:ShpC prog 9 false 1:=⟨by kernel_rfl⟩
instance (b o n c:Nat) (k:IntKind) (i:Int):StepC prog (Ag 25 (.slice (some ⟨b,o,none⟩) n c) (.int k i)) (0≤i∧i<n) (.pointer (some ⟨b,o+i.toNat*33,none⟩)):=⟨fun h=>Bw (P:=prog) 25 b o n c k i 33 (by kernel_rfl) (by kernel_rfl) h.1 h.2⟩
instance:SliS prog 25 33:=⟨by kernel_rfl,by kernel_rfl⟩
instance (priority:=1100) (b:Nat):StepC prog (Aa 43 (.pointer (some ⟨b,0,none⟩)) 1) True (.pointer (some ⟨b,32,none⟩)):=⟨fun _=>Au 43 b 0 1 32 1 (by kernel_rfl) (by decide)⟩
instance (b o:Nat):StepC prog (Aa 43 (.pointer (some ⟨b,o,none⟩)) 1) True (.pointer (some ⟨b,o+32,none⟩)):=⟨fun _=>Au 43 b o 1 32 1 (by kernel_rfl) (by decide)⟩
instance:ShpC prog 41 false 1:=⟨by kernel_rfl⟩
instance (ty:TypeId) (cs:List Bool) (a:Option Addr) (n c:Nat):StepC prog (Ak .len #[41] ty cs [.slice a n c]) True (.int .i64 n):=⟨fun _=>Cn 41 ty 9 cs a n c (by kernel_rfl)⟩
instance (b o n c:Nat) (k:IntKind) (i:Int):StepC prog (Ag 41 (.slice (some ⟨b,o,none⟩) n c) (.int k i)) (0≤i∧i<n) (.pointer (some ⟨b,o+i.toNat,none⟩)):=⟨fun h=>by have:=Bw (P:=prog) 41 b o n c k i 1 (by kernel_rfl) (by kernel_rfl) h.1 h.2;rwa [Nat.mul_one]at this⟩
instance:SliS prog 41 1:=⟨by kernel_rfl,by kernel_rfl⟩
instance:SliS prog 26 3:=⟨by kernel_rfl,by kernel_rfl⟩
instance (priority:=1100) (b:Nat):StepC prog (Aa 45 (.pointer (some ⟨b,0,none⟩)) 2) True (.pointer (some ⟨b,2,none⟩)):=⟨fun _=>Au 45 b 0 2 2 1 (by kernel_rfl) (by decide)⟩
instance:FunC prog 21:=⟨by kernel_rfl⟩
instance:FunC prog 22:=⟨by kernel_rfl⟩
instance:FunC prog 20:=⟨by kernel_rfl⟩
instance:FunC prog 24:=⟨by kernel_rfl⟩
instance:FunC prog 23:=⟨by kernel_rfl⟩
instance:IsPt prog 46:=Su (by kernel_rfl)
instance (priority:=1100) (b:Nat):StepC prog (Aa 67 (.pointer (some ⟨b,0,none⟩)) 0) True (.pointer (some ⟨b,0,none⟩)):=⟨fun _=>Au 67 b 0 0 0 163 (by kernel_rfl) (by decide)⟩
instance (priority:=1100) (b:Nat):StepC prog (Aa 62 (.pointer (some ⟨b,0,none⟩)) 2) True (.pointer (some ⟨b,64,none⟩)):=⟨fun _=>Au 62 b 0 2 64 1 (by kernel_rfl) (by decide)⟩
instance:ShpC prog 3 false 1:=⟨by kernel_rfl⟩
instance (priority:=1100) (b:Nat):StepC prog (Aa 62 (.pointer (some ⟨b,0,none⟩)) 0) True (.pointer (some ⟨b,0,none⟩)):=⟨fun _=>Au 62 b 0 0 0 32 (by kernel_rfl) (by decide)⟩
instance:ShpC prog 23 true 32:=⟨by kernel_rfl⟩
instance (priority:=1100) (b:Nat):StepC prog (Aa 28 (.pointer (some ⟨b,0,none⟩)) 1) True (.pointer (some ⟨b,32,none⟩)):=⟨fun _=>Au 28 b 0 1 32 1 (by kernel_rfl) (by decide)⟩
instance (priority:=1100) (b:Nat):StepC prog (Aa 28 (.pointer (some ⟨b,0,none⟩)) 2) True (.pointer (some ⟨b,33,none⟩)):=⟨fun _=>Au 28 b 0 2 33 1 (by kernel_rfl) (by decide)⟩
instance:FunC prog 25:=⟨by kernel_rfl⟩
instance:ZerF prog 40 [.one .nilFunc]:=⟨by kernel_rfl,inferInstance⟩
instance:ShpC prog 40 false 1:=⟨by kernel_rfl⟩
instance:FunC prog 27:=⟨by kernel_rfl⟩
instance:ShpC prog 43 true 33:=⟨by kernel_rfl⟩
instance:ZerF prog 43 [.arr 32 (u8s hzero.1),.one (.slice none 0 0)]:=⟨by kernel_rfl,inferInstance⟩
instance:FunC prog 28:=⟨by kernel_rfl⟩
instance:FunC prog 29:=⟨by kernel_rfl⟩
instance:FunC prog 32:=⟨by kernel_rfl⟩
instance:SliS prog 24 101:=⟨by kernel_rfl,by kernel_rfl⟩
instance:ShpC prog 75 true 101:=⟨by kernel_rfl⟩
instance:FunC prog 33:=⟨by kernel_rfl⟩
instance:ShpC prog 45 true 3:=⟨by kernel_rfl⟩
instance:ZerF prog 45 [.one (.int .i64 0),.one (.int .i64 0),.one (.string (ByteArray.mk #[]))]:=⟨by kernel_rfl,inferInstance⟩
instance (priority:=1100) (b:Nat):StepC prog (Aa 45 (.pointer (some ⟨b,0,none⟩)) 0) True (.pointer (some ⟨b,0,none⟩)):=⟨fun _=>Au 45 b 0 0 0 1 (by kernel_rfl) (by decide)⟩
instance (priority:=1100) (b:Nat):StepC prog (Aa 45 (.pointer (some ⟨b,0,none⟩)) 1) True (.pointer (some ⟨b,1,none⟩)):=⟨fun _=>Au 45 b 0 1 1 1 (by kernel_rfl) (by decide)⟩
instance:ZerC prog 23 (List.replicate 32 (.int .u8 0)):=⟨by kernel_rfl⟩
instance:FunC prog 34:=⟨by kernel_rfl⟩
instance:ZerF prog 22 [.arr 32 (u8s hzero.1)]:=⟨by kernel_rfl,inferInstance⟩
instance:ZerC prog 22 (List.replicate 32 (.int .u8 0)):=⟨by kernel_rfl⟩
instance:FunC prog 35:=⟨by kernel_rfl⟩
instance:ShpC prog 22 true 32:=⟨by kernel_rfl⟩
instance:FunC prog 36:=⟨by kernel_rfl⟩
instance:FunC prog 37:=⟨by kernel_rfl⟩
instance:FunC prog 38:=⟨by kernel_rfl⟩
instance:FunC prog 40:=⟨by kernel_rfl⟩
instance (priority:=1100) (b:Nat):StepC prog (Aa 28 (.pointer (some ⟨b,0,none⟩)) 0) True (.pointer (some ⟨b,0,none⟩)):=⟨fun _=>Au 28 b 0 0 0 32 (by kernel_rfl) (by decide)⟩
instance (priority:=1100) (b:Nat):StepC prog (Aa 28 (.pointer (some ⟨b,0,none⟩)) 4) True (.pointer (some ⟨b,35,none⟩)):=⟨fun _=>Au 28 b 0 4 35 32 (by kernel_rfl) (by decide)⟩
instance (priority:=1100) (b:Nat):StepC prog (Aa 28 (.pointer (some ⟨b,0,none⟩)) 5) True (.pointer (some ⟨b,67,none⟩)):=⟨fun _=>Au 28 b 0 5 67 32 (by kernel_rfl) (by decide)⟩
instance (priority:=1100) (b:Nat):StepC prog (Aa 43 (.pointer (some ⟨b,0,none⟩)) 0) True (.pointer (some ⟨b,0,none⟩)):=⟨fun _=>Au 43 b 0 0 0 32 (by kernel_rfl) (by decide)⟩
instance (b o:Nat):StepC prog (Aa 43 (.pointer (some ⟨b,o,none⟩)) 0) True (.pointer (some ⟨b,o+0,none⟩)):=⟨fun _=>Au 43 b o 0 0 32 (by kernel_rfl) (by decide)⟩
instance:FunC prog 43:=⟨by kernel_rfl⟩
instance (priority:=1100) (b:Nat):StepC prog (Aa 28 (.pointer (some ⟨b,0,none⟩)) 10) True (.pointer (some ⟨b,134,none⟩)):=⟨fun _=>Au 28 b 0 10 134 32 (by kernel_rfl) (by decide)⟩
instance (b o:Nat) (k:IntKind) (l:Int):StepC prog (Ax 23 (.pointer (some ⟨b,o,none⟩)) none (some (.int k l)) none) (0≤l∧l≤32) (.slice (some ⟨b,o,none⟩) l.toNat 32):=⟨fun h=>Ns (P:=prog) 23 b o 32 k l 1 (by kernel_rfl) (by kernel_rfl) (by kernel_rfl) h.1 h.2⟩
instance (b o:Nat):StepC prog (Ax 23 (.pointer (some ⟨b,o,none⟩)) none none none) True (.slice (some ⟨b,o,none⟩) 32 32):=⟨fun _=>Ea (P:=prog) 23 b o 32 1 (by kernel_rfl) (by kernel_rfl) (by kernel_rfl)⟩
instance:StrC prog 89 9:=⟨⟨5,by kernel_rfl,by kernel_rfl⟩,by kernel_rfl⟩
instance:ShpC prog 34 false 1:=⟨by kernel_rfl⟩
instance:ZerF prog 34 [.one (.int .i64 0)]:=⟨by kernel_rfl,inferInstance⟩
instance:FunC prog 45:=⟨by kernel_rfl⟩
instance:ZerF prog 93 [.one (.pointer none)]:=⟨by kernel_rfl,inferInstance⟩
instance:ShpC prog 93 false 1:=⟨by kernel_rfl⟩
instance:FunC prog 48:=⟨by kernel_rfl⟩
instance:FunC prog 49:=⟨by kernel_rfl⟩
instance:FunC prog 50:=⟨by kernel_rfl⟩
instance:FunC prog 51:=⟨by kernel_rfl⟩
instance:ZerF prog 75 [.arr 32 (u8s hzero.1),.one (.int .i64 0),.one (.int .i64 0),.one (.int .i64 0),.one (.int .i64 0),.one (.int .i64 0),.arr 32 (u8s hzero.1),.arr 32 (u8s hzero.1)]:=⟨by kernel_rfl,inferInstance⟩
instance:ZerF prog 91 [.one (.int .i64 0)]:=⟨by kernel_rfl,inferInstance⟩
instance:BltC prog 91:=⟨by kernel_rfl⟩
instance:PlC prog 91 0 0 1:=⟨by kernel_rfl⟩
instance:BltC prog 43:=⟨by kernel_rfl⟩
instance:PlC prog 43 0 0 32:=⟨by kernel_rfl⟩
instance:BltC prog 45:=⟨by kernel_rfl⟩
instance:PlC prog 45 0 0 1:=⟨by kernel_rfl⟩
instance:PlC prog 45 1 1 1:=⟨by kernel_rfl⟩
instance:PlC prog 45 2 2 1:=⟨by kernel_rfl⟩
instance (priority:=1100) (b:Nat):StepC prog (Aa 28 (.pointer (some ⟨b,0,none⟩)) 9) True (.pointer (some ⟨b,102,none⟩)):=⟨fun _=>Au 28 b 0 9 102 32 (by kernel_rfl) (by decide)⟩
instance:FunC prog 53:=⟨by kernel_rfl⟩
instance:FunC prog 52:=⟨by kernel_rfl⟩
instance:FunC prog 55:=⟨by kernel_rfl⟩
instance:FunC prog 56:=⟨by kernel_rfl⟩
instance:KindC prog 45 ((.int .i64)::((.int .i64)::[.str])):=⟨by kernel_rfl,by kernel_rfl,by kernel_rfl⟩
instance:ZerF prog 105 [.one (.string (ByteArray.mk #[])),.one (.int .i64 0)]:=⟨by kernel_rfl,inferInstance⟩
instance:BltC prog 105:=⟨by kernel_rfl⟩
instance:PlC prog 105 0 0 1:=⟨by kernel_rfl⟩
instance:ShpC prog 105 true 2:=⟨by kernel_rfl⟩
instance:BltC prog 28:=⟨by kernel_rfl⟩
instance:FunC prog 57:=⟨by kernel_rfl⟩
instance:FunC prog 58:=⟨by kernel_rfl⟩
instance (priority:=1100) (b:Nat):StepC prog (Aa 105 (.pointer (some ⟨b,0,none⟩)) 1) True (.pointer (some ⟨b,1,none⟩)):=⟨fun _=>Au 105 b 0 1 1 1 (by kernel_rfl) (by decide)⟩
instance:FunC prog 59:=⟨by kernel_rfl⟩
instance:FunC prog 61:=⟨by kernel_rfl⟩
instance:FunC prog 60:=⟨by kernel_rfl⟩
instance (ty:TypeId) (cs:List Bool) (a:Option Addr) (n c:Nat):StepC prog (Ak .len #[49] ty cs [.slice a n c]) True (.int .i64 n):=⟨fun _=>Cn 49 ty 113 cs a n c (by kernel_rfl)⟩
instance (b o n c:Nat) (k:IntKind) (i:Int):StepC prog (Ag 49 (.slice (some ⟨b,o,none⟩) n c) (.int k i)) (0≤i∧i<n) (.pointer (some ⟨b,o+i.toNat*33,none⟩)):=⟨fun h=>Bw (P:=prog) 49 b o n c k i 33 (by kernel_rfl) (by kernel_rfl) h.1 h.2⟩
instance (priority:=1100) (b:Nat):StepC prog (Aa 113 (.pointer (some ⟨b,0,none⟩)) 1) True (.pointer (some ⟨b,32,none⟩)):=⟨fun _=>Au 113 b 0 1 32 1 (by kernel_rfl) (by decide)⟩
instance (b o:Nat):StepC prog (Aa 113 (.pointer (some ⟨b,o,none⟩)) 1) True (.pointer (some ⟨b,o+32,none⟩)):=⟨fun _=>Au 113 b o 1 32 1 (by kernel_rfl) (by decide)⟩
instance:ShpC prog 111 false 1:=⟨by kernel_rfl⟩
instance (ty:TypeId) (cs:List Bool) (a:Option Addr) (n c:Nat):StepC prog (Ak .len #[111] ty cs [.slice a n c]) True (.int .i64 n):=⟨fun _=>Cn 111 ty 116 cs a n c (by kernel_rfl)⟩
instance:ShpC prog 113 true 33:=⟨by kernel_rfl⟩
instance:ZerF prog 113 [.arr 32 (u8s hzero.1),.one (.slice none 0 0)]:=⟨by kernel_rfl,inferInstance⟩
instance:FunC prog 62:=⟨by kernel_rfl⟩
instance (b o n c:Nat) (k:IntKind) (i:Int):StepC prog (Ag 111 (.slice (some ⟨b,o,none⟩) n c) (.int k i)) (0≤i∧i<n) (.pointer (some ⟨b,o+i.toNat*64,none⟩)):=⟨fun h=>Bw (P:=prog) 111 b o n c k i 64 (by kernel_rfl) (by kernel_rfl) h.1 h.2⟩
instance (b o:Nat):StepC prog (Aa 116 (.pointer (some ⟨b,o,none⟩)) 1) True (.pointer (some ⟨b,o+32,none⟩)):=⟨fun _=>Au 116 b o 1 32 32 (by kernel_rfl) (by decide)⟩
instance:FunC prog 63:=⟨by kernel_rfl⟩
instance (priority:=1100) (b:Nat):StepC prog (Aa 113 (.pointer (some ⟨b,0,none⟩)) 0) True (.pointer (some ⟨b,0,none⟩)):=⟨fun _=>Au 113 b 0 0 0 32 (by kernel_rfl) (by decide)⟩
instance:ZerF prog 118 [.one (.int .i64 0),.arr 32 (u8s hzero.1),.arr 32 (u8s hzero.1),.arr 32 (u8s hzero.1)]:=⟨by kernel_rfl,inferInstance⟩
instance:BltC prog 118:=⟨by kernel_rfl⟩
instance:PlC prog 118 0 0 1:=⟨by kernel_rfl⟩
instance:PlC prog 118 1 1 32:=⟨by kernel_rfl⟩
instance:PlC prog 118 2 33 32:=⟨by kernel_rfl⟩
instance:ZerF prog 58 [.one (.slice none 0 0),.one (.slice none 0 0)]:=⟨by kernel_rfl,inferInstance⟩
instance:BltC prog 58:=⟨by kernel_rfl⟩
instance:PlC prog 58 0 0 1:=⟨by kernel_rfl⟩
instance:ZerF prog 62 [.arr 32 (u8s hzero.1),.arr 32 (u8s hzero.1),.one (.int .i64 0),.one (.slice none 0 0),.one (.slice none 0 0),.arr 32 (u8s hzero.1),.arr 64 (List.replicate 64 (.int .i64 0))]:=⟨by kernel_rfl,inferInstance⟩
instance:BltC prog 62:=⟨by kernel_rfl⟩
instance:PlC prog 62 3 65 2:=⟨by kernel_rfl⟩
instance:PlC prog 62 4 67 32:=⟨by kernel_rfl⟩
instance:ShpC prog 62 true 163:=⟨by kernel_rfl⟩
instance (priority:=1100) (b:Nat):StepC prog (Aa 62 (.pointer (some ⟨b,0,none⟩)) 5) True (.pointer (some ⟨b,99,none⟩)):=⟨fun _=>Au 62 b 0 5 99 64 (by kernel_rfl) (by decide)⟩
instance (b o:Nat) (k:IntKind) (i:Int):StepC prog (Ag 60 (.pointer (some ⟨b,o,none⟩)) (.int k i)) (0≤i∧i<64) (.pointer (some ⟨b,o+i.toNat,none⟩)):=⟨fun h=>by have:=Bj (P:=prog) 60 b o 64 k i 1 (by kernel_rfl) (by kernel_rfl) (by kernel_rfl) h.1 h.2;rwa [Nat.mul_one]at this⟩
instance:FunC prog 65:=⟨by kernel_rfl⟩
instance (priority:=1100) (b:Nat):StepC prog (Aa 62 (.pointer (some ⟨b,0,none⟩)) 1) True (.pointer (some ⟨b,32,none⟩)):=⟨fun _=>Au 62 b 0 1 32 32 (by kernel_rfl) (by decide)⟩
instance (priority:=1100) (b:Nat):StepC prog (Aa 62 (.pointer (some ⟨b,0,none⟩)) 3) True (.pointer (some ⟨b,65,none⟩)):=⟨fun _=>Au 62 b 0 3 65 2 (by kernel_rfl) (by decide)⟩
instance:ShpC prog 58 true 2:=⟨by kernel_rfl⟩
instance (priority:=1100) (b:Nat):StepC prog (Aa 62 (.pointer (some ⟨b,0,none⟩)) 4) True (.pointer (some ⟨b,67,none⟩)):=⟨fun _=>Au 62 b 0 4 67 32 (by kernel_rfl) (by decide)⟩
instance:FunC prog 64:=⟨by kernel_rfl⟩
instance:FunC prog 67:=⟨by kernel_rfl⟩
instance:FunC prog 66:=⟨by kernel_rfl⟩
instance:ZerF prog 123 [.arr 32 (u8s hzero.1),.arr 32 (u8s hzero.1),.arr 32 (u8s hzero.1),.arr 32 (u8s hzero.1),.arr 32 (u8s hzero.1),.arr 32 (u8s hzero.1),.arr 32 (u8s hzero.1)]:=⟨by kernel_rfl,inferInstance⟩
instance:ShpC prog 123 true 224:=⟨by kernel_rfl⟩
instance:ZerF prog 128 [.one (.int .i64 0),.arr 32 (u8s hzero.1)]:=⟨by kernel_rfl,inferInstance⟩
instance:BltC prog 128:=⟨by kernel_rfl⟩
instance:PlC prog 128 1 1 32:=⟨by kernel_rfl⟩
instance:FunC prog 68:=⟨by kernel_rfl⟩
instance:FunC prog 69:=⟨by kernel_rfl⟩
instance:BltC prog 113:=⟨by kernel_rfl⟩
instance:PlC prog 113 0 0 32:=⟨by kernel_rfl⟩
instance:FunC prog 70:=⟨by kernel_rfl⟩
instance:FunC prog 71:=⟨by kernel_rfl⟩
instance (b o:Nat):StepC prog (Aa 116 (.pointer (some ⟨b,o,none⟩)) 0) True (.pointer (some ⟨b,o+0,none⟩)):=⟨fun _=>Au 116 b o 0 0 32 (by kernel_rfl) (by decide)⟩
instance:ZerF prog 116 [.arr 32 (u8s hzero.1),.arr 32 (u8s hzero.1)]:=⟨by kernel_rfl,inferInstance⟩
instance:BltC prog 116:=⟨by kernel_rfl⟩
instance:PlC prog 116 0 0 32:=⟨by kernel_rfl⟩
instance:PlC prog 116 1 32 32:=⟨by kernel_rfl⟩
instance (a:Int):StepC prog (Ay 3 5 (.int .i64 a)) True (.int .u8 (a%256)):=⟨fun _=>by have:=Fe (P:=prog) 3 5 .i64 .u8 a (by kernel_rfl) (by kernel_rfl);rwa [show IntKind.wrap .u8 a=a%256 by simp[IntKind.wrap,IntKind.bits,IntKind.signed]]at this⟩
instance (priority:=1100) (b:Nat):StepC prog (Aa 67 (.pointer (some ⟨b,0,none⟩)) 4) True (.pointer (some ⟨b,166,none⟩)):=⟨fun _=>Au 67 b 0 4 166 1 (by kernel_rfl) (by decide)⟩
instance:FunC prog 72:=⟨by kernel_rfl⟩
instance:FunC prog 73:=⟨by kernel_rfl⟩
instance (priority:=1100) (b:Nat):StepC prog (Aa 58 (.pointer (some ⟨b,0,none⟩)) 0) True (.pointer (some ⟨b,0,none⟩)):=⟨fun _=>Au 58 b 0 0 0 1 (by kernel_rfl) (by decide)⟩
instance (b o:Nat):StepC prog (Aa 58 (.pointer (some ⟨b,o,none⟩)) 0) True (.pointer (some ⟨b,o+0,none⟩)):=⟨fun _=>Au 58 b o 0 0 1 (by kernel_rfl) (by decide)⟩
instance:ShpC prog 55 false 1:=⟨by kernel_rfl⟩
instance (b o n c:Nat) (k:IntKind) (i:Int):StepC prog (Ag 55 (.slice (some ⟨b,o,none⟩) n c) (.int k i)) (0≤i∧i<n) (.pointer (some ⟨b,o+i.toNat*97,none⟩)):=⟨fun h=>Bw (P:=prog) 55 b o n c k i 97 (by kernel_rfl) (by kernel_rfl) h.1 h.2⟩
instance:SliS prog 55 97:=⟨by kernel_rfl,by kernel_rfl⟩
instance (priority:=1100) (b:Nat):StepC prog (Aa 118 (.pointer (some ⟨b,0,none⟩)) 2) True (.pointer (some ⟨b,33,none⟩)):=⟨fun _=>Au 118 b 0 2 33 32 (by kernel_rfl) (by decide)⟩
instance (b o:Nat):StepC prog (Aa 118 (.pointer (some ⟨b,o,none⟩)) 2) True (.pointer (some ⟨b,o+33,none⟩)):=⟨fun _=>Au 118 b o 2 33 32 (by kernel_rfl) (by decide)⟩
instance:ShpC prog 60 true 64:=⟨by kernel_rfl⟩
instance (priority:=1100) (b:Nat):StepC prog (Aa 67 (.pointer (some ⟨b,0,none⟩)) 1) True (.pointer (some ⟨b,163,none⟩)):=⟨fun _=>Au 67 b 0 1 163 1 (by kernel_rfl) (by decide)⟩
instance:FunC prog 74:=⟨by kernel_rfl⟩
instance:FunC prog 75:=⟨by kernel_rfl⟩
instance:ZerF prog 60 [.arr 64 (List.replicate 64 (.int .i64 0))]:=⟨by kernel_rfl,inferInstance⟩
instance:FunC prog 76:=⟨by kernel_rfl⟩
instance:FunC prog 77:=⟨by kernel_rfl⟩
instance:ZerF prog 139 [.one (.slice none 0 0),.one (.slice none 0 0),.one (.slice none 0 0),.one (.slice none 0 0),.one (.slice none 0 0),.arr 32 (u8s hzero.1)]:=⟨by kernel_rfl,inferInstance⟩
instance:ShpC prog 139 true 37:=⟨by kernel_rfl⟩
instance (priority:=1100) (b:Nat):StepC prog (Aa 139 (.pointer (some ⟨b,0,none⟩)) 0) True (.pointer (some ⟨b,0,none⟩)):=⟨fun _=>Au 139 b 0 0 0 2 (by kernel_rfl) (by decide)⟩
instance:ShpC prog 118 true 97:=⟨by kernel_rfl⟩
instance:FunC prog 78:=⟨by kernel_rfl⟩
instance (priority:=1100) (b:Nat):StepC prog (Aa 118 (.pointer (some ⟨b,0,none⟩)) 1) True (.pointer (some ⟨b,1,none⟩)):=⟨fun _=>Au 118 b 0 1 1 32 (by kernel_rfl) (by decide)⟩
instance (b o:Nat):StepC prog (Aa 118 (.pointer (some ⟨b,o,none⟩)) 1) True (.pointer (some ⟨b,o+1,none⟩)):=⟨fun _=>Au 118 b o 1 1 32 (by kernel_rfl) (by decide)⟩
instance (priority:=1100) (b:Nat):StepC prog (Aa 118 (.pointer (some ⟨b,0,none⟩)) 3) True (.pointer (some ⟨b,65,none⟩)):=⟨fun _=>Au 118 b 0 3 65 32 (by kernel_rfl) (by decide)⟩
instance (b o:Nat):StepC prog (Aa 118 (.pointer (some ⟨b,o,none⟩)) 3) True (.pointer (some ⟨b,o+65,none⟩)):=⟨fun _=>Au 118 b o 3 65 32 (by kernel_rfl) (by decide)⟩
instance (priority:=1100) (b:Nat):StepC prog (Aa 139 (.pointer (some ⟨b,0,none⟩)) 1) True (.pointer (some ⟨b,2,none⟩)):=⟨fun _=>Au 139 b 0 1 2 1 (by kernel_rfl) (by decide)⟩
instance:PlC prog 28 0 0 32:=⟨by kernel_rfl⟩
instance:PlC prog 28 1 32 1:=⟨by kernel_rfl⟩
instance:PlC prog 28 2 33 1:=⟨by kernel_rfl⟩
instance:PlC prog 28 3 34 1:=⟨by kernel_rfl⟩
instance:PlC prog 28 4 35 32:=⟨by kernel_rfl⟩
instance:PlC prog 28 5 67 32:=⟨by kernel_rfl⟩
instance:PlC prog 28 6 99 1:=⟨by kernel_rfl⟩
instance:FunC prog 80:=⟨by kernel_rfl⟩
instance (priority:=1100) (b:Nat):StepC prog (Aa 67 (.pointer (some ⟨b,0,none⟩)) 3) True (.pointer (some ⟨b,165,none⟩)):=⟨fun _=>Au 67 b 0 3 165 1 (by kernel_rfl) (by decide)⟩
instance:ShpC prog 64 false 1:=⟨by kernel_rfl⟩
instance:FunC prog 79:=⟨by kernel_rfl⟩
instance:FunC prog 81:=⟨by kernel_rfl⟩
instance:FunC prog 82:=⟨by kernel_rfl⟩
instance (priority:=1100) (b:Nat):StepC prog (Aa 139 (.pointer (some ⟨b,0,none⟩)) 4) True (.pointer (some ⟨b,5,none⟩)):=⟨fun _=>Au 139 b 0 4 5 32 (by kernel_rfl) (by decide)⟩
instance:FunC prog 83:=⟨by kernel_rfl⟩
instance:FunC prog 84:=⟨by kernel_rfl⟩
instance:FunC prog 85:=⟨by kernel_rfl⟩
instance:FunC prog 87:=⟨by kernel_rfl⟩
instance:FunC prog 86:=⟨by kernel_rfl⟩
instance (priority:=1100) (b:Nat):StepC prog (Aa 123 (.pointer (some ⟨b,0,none⟩)) 1) True (.pointer (some ⟨b,32,none⟩)):=⟨fun _=>Au 123 b 0 1 32 32 (by kernel_rfl) (by decide)⟩
instance:FunC prog 88:=⟨by kernel_rfl⟩
instance (ty:TypeId) (cs:List Bool) (a:Option Addr) (n c:Nat):StepC prog (Ak .len #[55] ty cs [.slice a n c]) True (.int .i64 n):=⟨fun _=>Cn 55 ty 118 cs a n c (by kernel_rfl)⟩
instance:FunC prog 89:=⟨by kernel_rfl⟩
instance:FunC prog 90:=⟨by kernel_rfl⟩
instance (ty:TypeId) (cs:List Bool) (a:Option Addr) (n c:Nat):StepC prog (Ak .len #[133] ty cs [.slice a n c]) True (.int .i64 n):=⟨fun _=>Cn 133 ty 3 cs a n c (by kernel_rfl)⟩
instance (b o n c:Nat) (k:IntKind) (i:Int):StepC prog (Ag 133 (.slice (some ⟨b,o,none⟩) n c) (.int k i)) (0≤i∧i<n) (.pointer (some ⟨b,o+i.toNat,none⟩)):=⟨fun h=>by have:=Bw (P:=prog) 133 b o n c k i 1 (by kernel_rfl) (by kernel_rfl) h.1 h.2;rwa [Nat.mul_one]at this⟩
instance:SliS prog 133 1:=⟨by kernel_rfl,by kernel_rfl⟩
instance:FunC prog 91:=⟨by kernel_rfl⟩
instance (priority:=1100) (b:Nat):StepC prog (Aa 139 (.pointer (some ⟨b,0,none⟩)) 2) True (.pointer (some ⟨b,3,none⟩)):=⟨fun _=>Au 139 b 0 2 3 1 (by kernel_rfl) (by decide)⟩
instance:ShpC prog 137 false 1:=⟨by kernel_rfl⟩
instance:SliS prog 137 32:=⟨by kernel_rfl,by kernel_rfl⟩
instance:FunC prog 93:=⟨by kernel_rfl⟩
instance (priority:=1100) (b:Nat):StepC prog (Aa 123 (.pointer (some ⟨b,0,none⟩)) 4) True (.pointer (some ⟨b,128,none⟩)):=⟨fun _=>Au 123 b 0 4 128 32 (by kernel_rfl) (by decide)⟩
instance:FunC prog 95:=⟨by kernel_rfl⟩
instance:FunC prog 96:=⟨by kernel_rfl⟩
instance (priority:=1100) (b:Nat):StepC prog (Aa 139 (.pointer (some ⟨b,0,none⟩)) 3) True (.pointer (some ⟨b,4,none⟩)):=⟨fun _=>Au 139 b 0 3 4 1 (by kernel_rfl) (by decide)⟩
instance:ShpC prog 63 false 1:=⟨by kernel_rfl⟩
instance:FunC prog 97:=⟨by kernel_rfl⟩
instance:FunC prog 98:=⟨by kernel_rfl⟩
instance:FunC prog 31:=⟨by kernel_rfl⟩
instance (priority:=1100) (b:Nat):StepC prog (Aa 75 (.pointer (some ⟨b,0,none⟩)) 4) True (.pointer (some ⟨b,35,none⟩)):=⟨fun _=>Au 75 b 0 4 35 34 (by kernel_rfl) (by decide)⟩
instance:ShpC prog 73 true 34:=⟨by kernel_rfl⟩
instance:ZerF prog 73 [.one (.int .i64 0),.one (.int .i64 0),.arr 32 (u8s hzero.1)]:=⟨by kernel_rfl,inferInstance⟩
instance (priority:=1100) (b:Nat):StepC prog (Aa 75 (.pointer (some ⟨b,0,none⟩)) 1) True (.pointer (some ⟨b,32,none⟩)):=⟨fun _=>Au 75 b 0 1 32 1 (by kernel_rfl) (by decide)⟩
instance (priority:=1100) (b:Nat):StepC prog (Aa 75 (.pointer (some ⟨b,0,none⟩)) 2) True (.pointer (some ⟨b,33,none⟩)):=⟨fun _=>Au 75 b 0 2 33 1 (by kernel_rfl) (by decide)⟩
instance:FunC prog 99:=⟨by kernel_rfl⟩
instance (priority:=1100) (b:Nat):StepC prog (Aa 73 (.pointer (some ⟨b,0,none⟩)) 1) True (.pointer (some ⟨b,1,none⟩)):=⟨fun _=>Au 73 b 0 1 1 1 (by kernel_rfl) (by decide)⟩
instance (b o:Nat):StepC prog (Aa 73 (.pointer (some ⟨b,o,none⟩)) 1) True (.pointer (some ⟨b,o+1,none⟩)):=⟨fun _=>Au 73 b o 1 1 1 (by kernel_rfl) (by decide)⟩
instance (priority:=1100) (b:Nat):StepC prog (Aa 75 (.pointer (some ⟨b,0,none⟩)) 3) True (.pointer (some ⟨b,34,none⟩)):=⟨fun _=>Au 75 b 0 3 34 1 (by kernel_rfl) (by decide)⟩
instance (priority:=1100) (b:Nat):StepC prog (Aa 73 (.pointer (some ⟨b,0,none⟩)) 0) True (.pointer (some ⟨b,0,none⟩)):=⟨fun _=>Au 73 b 0 0 0 1 (by kernel_rfl) (by decide)⟩
instance (b o:Nat):StepC prog (Aa 73 (.pointer (some ⟨b,o,none⟩)) 0) True (.pointer (some ⟨b,o+0,none⟩)):=⟨fun _=>Au 73 b o 0 0 1 (by kernel_rfl) (by decide)⟩
instance (priority:=1100) (b:Nat):StepC prog (Aa 73 (.pointer (some ⟨b,0,none⟩)) 2) True (.pointer (some ⟨b,2,none⟩)):=⟨fun _=>Au 73 b 0 2 2 32 (by kernel_rfl) (by decide)⟩
instance (b o:Nat):StepC prog (Aa 73 (.pointer (some ⟨b,o,none⟩)) 2) True (.pointer (some ⟨b,o+2,none⟩)):=⟨fun _=>Au 73 b o 2 2 32 (by kernel_rfl) (by decide)⟩
instance:FunC prog 100:=⟨by kernel_rfl⟩
instance:FunC prog 101:=⟨by kernel_rfl⟩
instance:FunC prog 102:=⟨by kernel_rfl⟩
instance:ZerC prog 171 (List.replicate 72 (.int .u8 0)):=⟨by kernel_rfl⟩
instance (b o:Nat) (k:IntKind) (i:Int):StepC prog (Ag 171 (.pointer (some ⟨b,o,none⟩)) (.int k i)) (0≤i∧i<72) (.pointer (some ⟨b,o+i.toNat,none⟩)):=⟨fun h=>by have:=Bj (P:=prog) 171 b o 72 k i 1 (by kernel_rfl) (by kernel_rfl) (by kernel_rfl) h.1 h.2;rwa [Nat.mul_one]at this⟩
instance:ShpC prog 5 false 1:=⟨by kernel_rfl⟩
instance (priority:=1100) (b:Nat):StepC prog (Aa 170 (.pointer (some ⟨b,0,none⟩)) 2) True (.pointer (some ⟨b,72,none⟩)):=⟨fun _=>Au 170 b 0 2 72 1 (by kernel_rfl) (by decide)⟩
instance (a:Int):StepC prog (Ay 3 172 (.int .i64 a)) True (.int .u64 (a%18446744073709551616)):=⟨fun _=>by have:=Fe (P:=prog) 3 172 .i64 .u64 a (by kernel_rfl) (by kernel_rfl);rwa [show IntKind.wrap .u64 a=a%18446744073709551616 by simp[IntKind.wrap,IntKind.bits,IntKind.signed]]at this⟩
instance (a:Int):StepC prog (Ay 172 5 (.int .u64 a)) True (.int .u8 (a%256)):=⟨fun _=>by have:=Fe (P:=prog) 172 5 .u64 .u8 a (by kernel_rfl) (by kernel_rfl);rwa [show IntKind.wrap .u8 a=a%256 by simp[IntKind.wrap,IntKind.bits,IntKind.signed]]at this⟩
instance (b o:Nat) (k:IntKind) (l:Int):StepC prog (Ax 171 (.pointer (some ⟨b,o,none⟩)) none (some (.int k l)) none) (0≤l∧l≤72) (.slice (some ⟨b,o,none⟩) l.toNat 72):=⟨fun h=>Ns (P:=prog) 171 b o 72 k l 1 (by kernel_rfl) (by kernel_rfl) (by kernel_rfl) h.1 h.2⟩
instance (priority:=1100) (b:Nat):StepC prog (Aa 170 (.pointer (some ⟨b,0,none⟩)) 0) True (.pointer (some ⟨b,0,none⟩)):=⟨fun _=>Au 170 b 0 0 0 8 (by kernel_rfl) (by decide)⟩
instance (priority:=1200) (b:Nat) (k:IntKind):StepC prog (Ag 165 (.pointer (some ⟨b,0,none⟩)) (.int k 0)) True (.pointer (some ⟨b,0,none⟩)):=⟨fun _=>by have:=Bj (P:=prog) 165 b 0 8 k 0 1 (by kernel_rfl) (by kernel_rfl) (by kernel_rfl) (by omega) (by omega);exact this⟩
instance (priority:=1200) (b:Nat) (k:IntKind):StepC prog (Ag 165 (.pointer (some ⟨b,0,none⟩)) (.int k 1)) True (.pointer (some ⟨b,1,none⟩)):=⟨fun _=>by have:=Bj (P:=prog) 165 b 0 8 k 1 1 (by kernel_rfl) (by kernel_rfl) (by kernel_rfl) (by omega) (by omega);exact this⟩
instance (priority:=1200) (b:Nat) (k:IntKind):StepC prog (Ag 165 (.pointer (some ⟨b,0,none⟩)) (.int k 2)) True (.pointer (some ⟨b,2,none⟩)):=⟨fun _=>by have:=Bj (P:=prog) 165 b 0 8 k 2 1 (by kernel_rfl) (by kernel_rfl) (by kernel_rfl) (by omega) (by omega);exact this⟩
instance (priority:=1200) (b:Nat) (k:IntKind):StepC prog (Ag 165 (.pointer (some ⟨b,0,none⟩)) (.int k 3)) True (.pointer (some ⟨b,3,none⟩)):=⟨fun _=>by have:=Bj (P:=prog) 165 b 0 8 k 3 1 (by kernel_rfl) (by kernel_rfl) (by kernel_rfl) (by omega) (by omega);exact this⟩
instance (priority:=1200) (b:Nat) (k:IntKind):StepC prog (Ag 165 (.pointer (some ⟨b,0,none⟩)) (.int k 4)) True (.pointer (some ⟨b,4,none⟩)):=⟨fun _=>by have:=Bj (P:=prog) 165 b 0 8 k 4 1 (by kernel_rfl) (by kernel_rfl) (by kernel_rfl) (by omega) (by omega);exact this⟩
instance (priority:=1200) (b:Nat) (k:IntKind):StepC prog (Ag 165 (.pointer (some ⟨b,0,none⟩)) (.int k 5)) True (.pointer (some ⟨b,5,none⟩)):=⟨fun _=>by have:=Bj (P:=prog) 165 b 0 8 k 5 1 (by kernel_rfl) (by kernel_rfl) (by kernel_rfl) (by omega) (by omega);exact this⟩
instance (priority:=1200) (b:Nat) (k:IntKind):StepC prog (Ag 165 (.pointer (some ⟨b,0,none⟩)) (.int k 6)) True (.pointer (some ⟨b,6,none⟩)):=⟨fun _=>by have:=Bj (P:=prog) 165 b 0 8 k 6 1 (by kernel_rfl) (by kernel_rfl) (by kernel_rfl) (by omega) (by omega);exact this⟩
instance (priority:=1200) (b:Nat) (k:IntKind):StepC prog (Ag 165 (.pointer (some ⟨b,0,none⟩)) (.int k 7)) True (.pointer (some ⟨b,7,none⟩)):=⟨fun _=>by have:=Bj (P:=prog) 165 b 0 8 k 7 1 (by kernel_rfl) (by kernel_rfl) (by kernel_rfl) (by omega) (by omega);exact this⟩
instance (b o:Nat) (k:IntKind) (i:Int):StepC prog (Ag 165 (.pointer (some ⟨b,o,none⟩)) (.int k i)) (0≤i∧i<8) (.pointer (some ⟨b,o+i.toNat,none⟩)):=⟨fun h=>by have:=Bj (P:=prog) 165 b o 8 k i 1 (by kernel_rfl) (by kernel_rfl) (by kernel_rfl) h.1 h.2;rwa [Nat.mul_one]at this⟩
instance:ShpC prog 164 false 1:=⟨by kernel_rfl⟩
instance (a:Int):StepC prog (Ay 164 5 (.int .u32 a)) True (.int .u8 (a%256)):=⟨fun _=>by have:=Fe (P:=prog) 164 5 .u32 .u8 a (by kernel_rfl) (by kernel_rfl);rwa [show IntKind.wrap .u8 a=a%256 by simp[IntKind.wrap,IntKind.bits,IntKind.signed]]at this⟩
instance (b o:Nat) (k:IntKind) (i:Int):StepC prog (Ag 23 (.pointer (some ⟨b,o,none⟩)) (.int k i)) (0≤i∧i<32) (.pointer (some ⟨b,o+i.toNat,none⟩)):=⟨fun h=>by have:=Bj (P:=prog) 23 b o 32 k i 1 (by kernel_rfl) (by kernel_rfl) (by kernel_rfl) h.1 h.2;rwa [Nat.mul_one]at this⟩
instance:ZerC prog 166 (List.replicate 64 (.int .u32 0)):=⟨by kernel_rfl⟩
instance:ShpC prog 166 true 64:=⟨by kernel_rfl⟩
instance (ty:TypeId) (cs:List Bool) (a:Option Addr) (n c:Nat):StepC prog (Ak .len #[89] ty cs [.slice a n c]) True (.int .i64 n):=⟨fun _=>Cn 89 ty 5 cs a n c (by kernel_rfl)⟩
instance (a:Int):StepC prog (Ay 3 173 (.int .i64 a)) True (.int .u64 (a%18446744073709551616)):=⟨fun _=>by have:=Fe (P:=prog) 3 173 .i64 .u64 a (by kernel_rfl) (by kernel_rfl);rwa [show IntKind.wrap .u64 a=a%18446744073709551616 by simp[IntKind.wrap,IntKind.bits,IntKind.signed]]at this⟩
instance:ZerC prog 165 (List.replicate 8 (.int .u32 0)):=⟨by kernel_rfl⟩
instance:ShpC prog 165 true 8:=⟨by kernel_rfl⟩
instance:FunC prog 103:=⟨by kernel_rfl⟩
instance (b o:Nat) (k:IntKind) (i:Int):StepC prog (Ag 166 (.pointer (some ⟨b,o,none⟩)) (.int k i)) (0≤i∧i<64) (.pointer (some ⟨b,o+i.toNat,none⟩)):=⟨fun h=>by have:=Bj (P:=prog) 166 b o 64 k i 1 (by kernel_rfl) (by kernel_rfl) (by kernel_rfl) h.1 h.2;rwa [Nat.mul_one]at this⟩
instance:FunC prog 104:=⟨by kernel_rfl⟩
instance (b o:Nat) (k:IntKind) (i:Int):StepC prog (Ag 22 (.pointer (some ⟨b,o,none⟩)) (.int k i)) (0≤i∧i<32) (.pointer (some ⟨b,o+i.toNat,none⟩)):=⟨fun h=>by have:=Bj (P:=prog) 22 b o 32 k i 1 (by kernel_rfl) (by kernel_rfl) (by kernel_rfl) h.1 h.2;rwa [Nat.mul_one]at this⟩
instance:ZerF prog 177 [.one (.slice none 0 0),.one (.bool false)]:=⟨by kernel_rfl,inferInstance⟩
instance:BltC prog 177:=⟨by kernel_rfl⟩
instance:ShpC prog 177 true 2:=⟨by kernel_rfl⟩
instance:ShpC prog 80 false 1:=⟨by kernel_rfl⟩
instance:FunC prog 106:=⟨by kernel_rfl⟩
instance:FunC prog 105:=⟨by kernel_rfl⟩
instance:FunC prog 108:=⟨by kernel_rfl⟩
instance:IsPt prog 80:=Su (by kernel_rfl)
instance (priority:=1100) (b:Nat):StepC prog (Aa 177 (.pointer (some ⟨b,0,none⟩)) 1) True (.pointer (some ⟨b,1,none⟩)):=⟨fun _=>Au 177 b 0 1 1 1 (by kernel_rfl) (by decide)⟩
instance:ShpC prog 4 false 1:=⟨by kernel_rfl⟩
instance (priority:=1100) (b:Nat):StepC prog (Aa 177 (.pointer (some ⟨b,0,none⟩)) 0) True (.pointer (some ⟨b,0,none⟩)):=⟨fun _=>Au 177 b 0 0 0 1 (by kernel_rfl) (by decide)⟩
instance:ShpC prog 89 false 1:=⟨by kernel_rfl⟩
instance (b o:Nat):StepC prog (Ax 22 (.pointer (some ⟨b,o,none⟩)) none none none) True (.slice (some ⟨b,o,none⟩) 32 32):=⟨fun _=>Ea (P:=prog) 22 b o 32 1 (by kernel_rfl) (by kernel_rfl) (by kernel_rfl)⟩
instance:ZerF prog 183 [.one (.int .u8 0),.one (.int .u8 0),.one (.int .u8 0),.one (.int .u8 0),.one (.int .u8 0),.one (.int .u8 0),.one (.int .u8 0),.one (.int .u8 0)]:=⟨by kernel_rfl,inferInstance⟩
instance (priority:=1200) (b:Nat) (k:IntKind):StepC prog (Ag 183 (.pointer (some ⟨b,0,none⟩)) (.int k 0)) True (.pointer (some ⟨b,0,none⟩)):=⟨fun _=>by have:=Bj (P:=prog) 183 b 0 8 k 0 1 (by kernel_rfl) (by kernel_rfl) (by kernel_rfl) (by omega) (by omega);exact this⟩
instance (priority:=1200) (b:Nat) (k:IntKind):StepC prog (Ag 183 (.pointer (some ⟨b,0,none⟩)) (.int k 1)) True (.pointer (some ⟨b,1,none⟩)):=⟨fun _=>by have:=Bj (P:=prog) 183 b 0 8 k 1 1 (by kernel_rfl) (by kernel_rfl) (by kernel_rfl) (by omega) (by omega);exact this⟩
instance (priority:=1200) (b:Nat) (k:IntKind):StepC prog (Ag 183 (.pointer (some ⟨b,0,none⟩)) (.int k 2)) True (.pointer (some ⟨b,2,none⟩)):=⟨fun _=>by have:=Bj (P:=prog) 183 b 0 8 k 2 1 (by kernel_rfl) (by kernel_rfl) (by kernel_rfl) (by omega) (by omega);exact this⟩
instance (priority:=1200) (b:Nat) (k:IntKind):StepC prog (Ag 183 (.pointer (some ⟨b,0,none⟩)) (.int k 3)) True (.pointer (some ⟨b,3,none⟩)):=⟨fun _=>by have:=Bj (P:=prog) 183 b 0 8 k 3 1 (by kernel_rfl) (by kernel_rfl) (by kernel_rfl) (by omega) (by omega);exact this⟩
instance (priority:=1200) (b:Nat) (k:IntKind):StepC prog (Ag 183 (.pointer (some ⟨b,0,none⟩)) (.int k 4)) True (.pointer (some ⟨b,4,none⟩)):=⟨fun _=>by have:=Bj (P:=prog) 183 b 0 8 k 4 1 (by kernel_rfl) (by kernel_rfl) (by kernel_rfl) (by omega) (by omega);exact this⟩
instance (priority:=1200) (b:Nat) (k:IntKind):StepC prog (Ag 183 (.pointer (some ⟨b,0,none⟩)) (.int k 5)) True (.pointer (some ⟨b,5,none⟩)):=⟨fun _=>by have:=Bj (P:=prog) 183 b 0 8 k 5 1 (by kernel_rfl) (by kernel_rfl) (by kernel_rfl) (by omega) (by omega);exact this⟩
instance (priority:=1200) (b:Nat) (k:IntKind):StepC prog (Ag 183 (.pointer (some ⟨b,0,none⟩)) (.int k 6)) True (.pointer (some ⟨b,6,none⟩)):=⟨fun _=>by have:=Bj (P:=prog) 183 b 0 8 k 6 1 (by kernel_rfl) (by kernel_rfl) (by kernel_rfl) (by omega) (by omega);exact this⟩
instance (priority:=1200) (b:Nat) (k:IntKind):StepC prog (Ag 183 (.pointer (some ⟨b,0,none⟩)) (.int k 7)) True (.pointer (some ⟨b,7,none⟩)):=⟨fun _=>by have:=Bj (P:=prog) 183 b 0 8 k 7 1 (by kernel_rfl) (by kernel_rfl) (by kernel_rfl) (by omega) (by omega);exact this⟩
instance (b o:Nat):StepC prog (Ax 183 (.pointer (some ⟨b,o,none⟩)) none none none) True (.slice (some ⟨b,o,none⟩) 8 8):=⟨fun _=>Ea (P:=prog) 183 b o 8 1 (by kernel_rfl) (by kernel_rfl) (by kernel_rfl)⟩
instance (priority:=1100) (b:Nat):StepC prog (Aa 75 (.pointer (some ⟨b,0,none⟩)) 5) True (.pointer (some ⟨b,69,none⟩)):=⟨fun _=>Au 75 b 0 5 69 32 (by kernel_rfl) (by decide)⟩
instance:ZerF prog 80 [.one (.pointer none)]:=⟨by kernel_rfl,inferInstance⟩
instance:FunC prog 113:=⟨by kernel_rfl⟩
instance:ShpC prog 91 true 1:=⟨by kernel_rfl⟩
instance (priority:=1100) (b:Nat):StepC prog (Aa 91 (.pointer (some ⟨b,0,none⟩)) 0) True (.pointer (some ⟨b,0,none⟩)):=⟨fun _=>Au 91 b 0 0 0 1 (by kernel_rfl) (by decide)⟩
instance:ZerF prog 187 [.one (.string (ByteArray.mk #[])),.one (.int .i64 0)]:=⟨by kernel_rfl,inferInstance⟩
instance:BltC prog 187:=⟨by kernel_rfl⟩
instance:PlC prog 187 0 0 1:=⟨by kernel_rfl⟩
instance:ShpC prog 187 true 2:=⟨by kernel_rfl⟩
instance:FunC prog 47:=⟨by kernel_rfl⟩
instance:IsPt prog 93:=Su (by kernel_rfl)
instance (priority:=1100) (b:Nat):StepC prog (Aa 187 (.pointer (some ⟨b,0,none⟩)) 1) True (.pointer (some ⟨b,1,none⟩)):=⟨fun _=>Au 187 b 0 1 1 1 (by kernel_rfl) (by decide)⟩
instance:FunC prog 115:=⟨by kernel_rfl⟩
instance (priority:=1100) (b:Nat):StepC prog (Aa 187 (.pointer (some ⟨b,0,none⟩)) 0) True (.pointer (some ⟨b,0,none⟩)):=⟨fun _=>Au 187 b 0 0 0 1 (by kernel_rfl) (by decide)⟩
instance (a:Int):StepC prog (Ay 5 3 (.int .u8 a)) (0≤a∧a<256) (.int .i64 a):=⟨fun h=>by have:=Fe (P:=prog) 5 3 .u8 .i64 a (by kernel_rfl) (by kernel_rfl);rwa [show IntKind.wrap .i64 a=a by simp[IntKind.wrap,IntKind.bits,IntKind.signed];omega]at this⟩
instance:FunC prog 116:=⟨by kernel_rfl⟩
instance (priority:=1100) (b:Nat):StepC prog (Aa 75 (.pointer (some ⟨b,0,none⟩)) 0) True (.pointer (some ⟨b,0,none⟩)):=⟨fun _=>Au 75 b 0 0 0 32 (by kernel_rfl) (by decide)⟩
instance:BltC prog 73:=⟨by kernel_rfl⟩
instance:PlC prog 73 0 0 1:=⟨by kernel_rfl⟩
instance:PlC prog 73 1 1 1:=⟨by kernel_rfl⟩
instance:PlC prog 73 2 2 32:=⟨by kernel_rfl⟩
instance:ZerF prog 193 [.one (.int .i64 0)]:=⟨by kernel_rfl,inferInstance⟩
instance:BltC prog 193:=⟨by kernel_rfl⟩
instance:PlC prog 193 0 0 1:=⟨by kernel_rfl⟩
instance:KindC prog 75 (List.replicate 32 (.int .u8)++((.int .i64)::((.int .i64)::((.int .i64)::((.int .i64)::((.int .i64)::(List.replicate 32 (.int .u8)++(List.replicate 32 (.int .u8))))))))):=⟨by kernel_rfl,by kernel_rfl,by kernel_rfl⟩
instance:FunC prog 118:=⟨by kernel_rfl⟩
instance (priority:=1100) (b:Nat):StepC prog (Aa 105 (.pointer (some ⟨b,0,none⟩)) 0) True (.pointer (some ⟨b,0,none⟩)):=⟨fun _=>Au 105 b 0 0 0 1 (by kernel_rfl) (by decide)⟩
instance (s:ByteArray) (k:IntKind) (l:Int):StepC prog (Ax 9 (.string s) (some (.int k l)) none none) (0≤l∧l≤s.size) (.string (s.extract l.toNat s.size)):=⟨fun h=>Ll (P:=prog) 9 s k l (by kernel_rfl) h.1 h.2⟩
instance (s:ByteArray) (k:IntKind) (l:Int):StepC prog (Ax 9 (.string s) none (some (.int k l)) none) (0≤l∧l≤s.size) (.string (s.extract 0 l.toNat)):=⟨fun h=>Lm (P:=prog) 9 s k l (by kernel_rfl) h.1 h.2⟩
instance:FunC prog 119:=⟨by kernel_rfl⟩
instance:BltC prog 75:=⟨by kernel_rfl⟩
instance:FunC prog 120:=⟨by kernel_rfl⟩
instance:FunC prog 122:=⟨by kernel_rfl⟩
instance:ZerF prog 199 [.one (.slice none 0 0),.one (.slice none 0 0)]:=⟨by kernel_rfl,inferInstance⟩
instance:BltC prog 199:=⟨by kernel_rfl⟩
instance:PlC prog 199 0 0 1:=⟨by kernel_rfl⟩
instance:PlC prog 199 1 1 1:=⟨by kernel_rfl⟩
instance:FunC prog 121:=⟨by kernel_rfl⟩
instance:FunC prog 123:=⟨by kernel_rfl⟩
instance:FunC prog 125:=⟨by kernel_rfl⟩
instance:FunC prog 124:=⟨by kernel_rfl⟩
instance:BltC prog 123:=⟨by kernel_rfl⟩
instance:PlC prog 123 0 0 32:=⟨by kernel_rfl⟩
instance (priority:=1100) (b:Nat):StepC prog (Aa 123 (.pointer (some ⟨b,0,none⟩)) 2) True (.pointer (some ⟨b,64,none⟩)):=⟨fun _=>Au 123 b 0 2 64 32 (by kernel_rfl) (by decide)⟩
instance (priority:=1100) (b:Nat):StepC prog (Aa 123 (.pointer (some ⟨b,0,none⟩)) 3) True (.pointer (some ⟨b,96,none⟩)):=⟨fun _=>Au 123 b 0 3 96 32 (by kernel_rfl) (by decide)⟩
instance:ZerF prog 203 [.one (.pointer none),.one (.string (ByteArray.mk #[]))]:=⟨by kernel_rfl,inferInstance⟩
instance:BltC prog 203:=⟨by kernel_rfl⟩
instance:PlC prog 203 0 0 1:=⟨by kernel_rfl⟩
instance:PlC prog 203 1 1 1:=⟨by kernel_rfl⟩
instance (priority:=1100) (b:Nat):StepC prog (Aa 123 (.pointer (some ⟨b,0,none⟩)) 5) True (.pointer (some ⟨b,160,none⟩)):=⟨fun _=>Au 123 b 0 5 160 32 (by kernel_rfl) (by decide)⟩
instance (priority:=1100) (b:Nat):StepC prog (Aa 123 (.pointer (some ⟨b,0,none⟩)) 6) True (.pointer (some ⟨b,192,none⟩)):=⟨fun _=>Au 123 b 0 6 192 32 (by kernel_rfl) (by decide)⟩
instance:ZerF prog 204 [.one (.pointer none),.one (.string (ByteArray.mk #[])),.one (.pointer none),.one (.string (ByteArray.mk #[])),.one (.pointer none),.one (.string (ByteArray.mk #[])),.one (.pointer none),.one (.string (ByteArray.mk #[]))]:=⟨by kernel_rfl,inferInstance⟩
instance:BltC prog 204:=⟨by kernel_rfl⟩
instance:PlC prog 204 0 0 2:=⟨by kernel_rfl⟩
instance:PlC prog 204 1 2 2:=⟨by kernel_rfl⟩
instance:PlC prog 204 2 4 2:=⟨by kernel_rfl⟩
instance:PlC prog 204 3 6 2:=⟨by kernel_rfl⟩
instance:ShpC prog 203 true 2:=⟨by kernel_rfl⟩
instance (priority:=1100) (b:Nat):StepC prog (Aa 203 (.pointer (some ⟨b,0,none⟩)) 0) True (.pointer (some ⟨b,0,none⟩)):=⟨fun _=>Au 203 b 0 0 0 1 (by kernel_rfl) (by decide)⟩
instance:ShpC prog 202 false 1:=⟨by kernel_rfl⟩
instance (priority:=1100) (b:Nat):StepC prog (Aa 203 (.pointer (some ⟨b,0,none⟩)) 1) True (.pointer (some ⟨b,1,none⟩)):=⟨fun _=>Au 203 b 0 1 1 1 (by kernel_rfl) (by decide)⟩
instance:FunC prog 126:=⟨by kernel_rfl⟩
instance:FunC prog 127:=⟨by kernel_rfl⟩
instance (b o:Nat):StepC prog (Ax 60 (.pointer (some ⟨b,o,none⟩)) none none none) True (.slice (some ⟨b,o,none⟩) 64 64):=⟨fun _=>Ea (P:=prog) 60 b o 64 1 (by kernel_rfl) (by kernel_rfl) (by kernel_rfl)⟩
instance:FunC prog 128:=⟨by kernel_rfl⟩
instance:FunC prog 130:=⟨by kernel_rfl⟩
instance:ZerF prog 67 [.arr 32 (u8s hzero.1),.arr 32 (u8s hzero.1),.one (.int .i64 0),.one (.slice none 0 0),.one (.slice none 0 0),.arr 32 (u8s hzero.1),.arr 64 (List.replicate 64 (.int .i64 0)),.one (.int .i64 0),.one (.slice none 0 0),.one (.pointer none),.one (.int .i64 0),.one (.slice none 0 0),.one (.int .i64 0),.arr 32 (u8s hzero.1)]:=⟨by kernel_rfl,inferInstance⟩
instance:BltC prog 67:=⟨by kernel_rfl⟩
instance:PlC prog 67 0 0 163:=⟨by kernel_rfl⟩
instance:PlC prog 67 1 163 1:=⟨by kernel_rfl⟩
instance:PlC prog 67 2 164 1:=⟨by kernel_rfl⟩
instance:PlC prog 67 7 169 32:=⟨by kernel_rfl⟩
instance:ShpC prog 67 true 201:=⟨by kernel_rfl⟩
instance:FunC prog 131:=⟨by kernel_rfl⟩
instance:FunC prog 132:=⟨by kernel_rfl⟩
instance (priority:=1100) (b:Nat):StepC prog (Aa 118 (.pointer (some ⟨b,0,none⟩)) 0) True (.pointer (some ⟨b,0,none⟩)):=⟨fun _=>Au 118 b 0 0 0 1 (by kernel_rfl) (by decide)⟩
instance (b o:Nat):StepC prog (Aa 118 (.pointer (some ⟨b,o,none⟩)) 0) True (.pointer (some ⟨b,o+0,none⟩)):=⟨fun _=>Au 118 b o 0 0 1 (by kernel_rfl) (by decide)⟩
instance:FunC prog 133:=⟨by kernel_rfl⟩
instance (priority:=1100) (b:Nat):StepC prog (Aa 67 (.pointer (some ⟨b,0,none⟩)) 5) True (.pointer (some ⟨b,167,none⟩)):=⟨fun _=>Au 67 b 0 5 167 1 (by kernel_rfl) (by decide)⟩
instance:ShpC prog 65 false 1:=⟨by kernel_rfl⟩
instance:FunC prog 135:=⟨by kernel_rfl⟩
instance:FunC prog 134:=⟨by kernel_rfl⟩
instance:FunC prog 136:=⟨by kernel_rfl⟩
instance:FunC prog 137:=⟨by kernel_rfl⟩
instance:FunC prog 141:=⟨by kernel_rfl⟩
instance (priority:=1100) (b:Nat):StepC prog (Aa 58 (.pointer (some ⟨b,0,none⟩)) 1) True (.pointer (some ⟨b,1,none⟩)):=⟨fun _=>Au 58 b 0 1 1 1 (by kernel_rfl) (by decide)⟩
instance:ShpC prog 56 false 1:=⟨by kernel_rfl⟩
instance:FunC prog 142:=⟨by kernel_rfl⟩
instance (ty:TypeId) (cs:List Bool) (a:Option Addr) (n c:Nat):StepC prog (Ak .len #[56] ty cs [.slice a n c]) True (.int .i64 n):=⟨fun _=>Cn 56 ty 222 cs a n c (by kernel_rfl)⟩
instance:FunC prog 143:=⟨by kernel_rfl⟩
instance (b o n c:Nat) (k:IntKind) (i:Int):StepC prog (Ag 56 (.slice (some ⟨b,o,none⟩) n c) (.int k i)) (0≤i∧i<n) (.pointer (some ⟨b,o+i.toNat*66,none⟩)):=⟨fun h=>Bw (P:=prog) 56 b o n c k i 66 (by kernel_rfl) (by kernel_rfl) h.1 h.2⟩
instance:SliS prog 56 66:=⟨by kernel_rfl,by kernel_rfl⟩
instance (priority:=1100) (b:Nat):StepC prog (Aa 222 (.pointer (some ⟨b,0,none⟩)) 3) True (.pointer (some ⟨b,65,none⟩)):=⟨fun _=>Au 222 b 0 3 65 1 (by kernel_rfl) (by decide)⟩
instance (b o:Nat):StepC prog (Aa 222 (.pointer (some ⟨b,o,none⟩)) 3) True (.pointer (some ⟨b,o+65,none⟩)):=⟨fun _=>Au 222 b o 3 65 1 (by kernel_rfl) (by decide)⟩
instance:ShpC prog 133 false 1:=⟨by kernel_rfl⟩
instance:FdC prog 58 0 0 1 false:=⟨by kernel_rfl⟩
instance:FunC prog 148:=⟨by kernel_rfl⟩
instance:FunC prog 147:=⟨by kernel_rfl⟩
instance:BltC prog 139:=⟨by kernel_rfl⟩
instance:FunC prog 149:=⟨by kernel_rfl⟩
instance:FunC prog 150:=⟨by kernel_rfl⟩
instance (ty:TypeId) (cs:List Bool) (a:Option Addr) (n c:Nat):StepC prog (Ak .len #[63] ty cs [.slice a n c]) True (.int .i64 n):=⟨fun _=>Cn 63 ty 128 cs a n c (by kernel_rfl)⟩
instance (b o n c:Nat) (k:IntKind) (i:Int):StepC prog (Ag 63 (.slice (some ⟨b,o,none⟩) n c) (.int k i)) (0≤i∧i<n) (.pointer (some ⟨b,o+i.toNat*33,none⟩)):=⟨fun h=>Bw (P:=prog) 63 b o n c k i 33 (by kernel_rfl) (by kernel_rfl) h.1 h.2⟩
instance:SliS prog 63 33:=⟨by kernel_rfl,by kernel_rfl⟩
instance:ShpC prog 128 true 33:=⟨by kernel_rfl⟩
instance (priority:=1100) (b:Nat):StepC prog (Aa 128 (.pointer (some ⟨b,0,none⟩)) 1) True (.pointer (some ⟨b,1,none⟩)):=⟨fun _=>Au 128 b 0 1 1 32 (by kernel_rfl) (by decide)⟩
instance:FunC prog 151:=⟨by kernel_rfl⟩
instance (ty:TypeId) (cs:List Bool) (a:Option Addr) (n c:Nat):StepC prog (Ak .len #[234] ty cs [.slice a n c]) True (.int .i64 n):=⟨fun _=>Cn 234 ty 133 cs a n c (by kernel_rfl)⟩
instance:SliS prog 234 1:=⟨by kernel_rfl,by kernel_rfl⟩
instance:FunC prog 152:=⟨by kernel_rfl⟩
instance:FunC prog 153:=⟨by kernel_rfl⟩
instance:FunC prog 154:=⟨by kernel_rfl⟩
instance:FunC prog 155:=⟨by kernel_rfl⟩
instance:IsSl prog 24:=Pv (by kernel_rfl)
instance:FunC prog 156:=⟨by kernel_rfl⟩
instance:FunC prog 157:=⟨by kernel_rfl⟩
instance:FunC prog 158:=⟨by kernel_rfl⟩
instance (priority:=1100) (b:Nat):StepC prog (Aa 247 (.pointer (some ⟨b,0,none⟩)) 1) True (.pointer (some ⟨b,1,none⟩)):=⟨fun _=>Au 247 b 0 1 1 1 (by kernel_rfl) (by decide)⟩
instance:ShpC prog 243 false 1:=⟨by kernel_rfl⟩
instance:SliS prog 243 34:=⟨by kernel_rfl,by kernel_rfl⟩
instance (b o n c:Nat) (k:IntKind) (i:Int):StepC prog (Ag 89 (.slice (some ⟨b,o,none⟩) n c) (.int k i)) (0≤i∧i<n) (.pointer (some ⟨b,o+i.toNat,none⟩)):=⟨fun h=>by have:=Bw (P:=prog) 89 b o n c k i 1 (by kernel_rfl) (by kernel_rfl) h.1 h.2;rwa [Nat.mul_one]at this⟩
instance:SliS prog 89 1:=⟨by kernel_rfl,by kernel_rfl⟩
instance:PlC prog 62 1 32 32:=⟨by kernel_rfl⟩
instance:PlC prog 62 2 64 1:=⟨by kernel_rfl⟩
instance:PlC prog 62 5 99 64:=⟨by kernel_rfl⟩
instance:FunC prog 159:=⟨by kernel_rfl⟩
instance:FunC prog 160:=⟨by kernel_rfl⟩
instance:ShpC prog 222 true 66:=⟨by kernel_rfl⟩
instance:ZerF prog 222 [.one (.bool false),.arr 32 (u8s hzero.1),.arr 32 (u8s hzero.1),.one (.slice none 0 0)]:=⟨by kernel_rfl,inferInstance⟩
instance:FunC prog 161:=⟨by kernel_rfl⟩
instance (ty:TypeId) (cs:List Bool) (a:Option Addr) (n c:Nat):StepC prog (Ak .len #[137] ty cs [.slice a n c]) True (.int .i64 n):=⟨fun _=>Cn 137 ty 23 cs a n c (by kernel_rfl)⟩
instance:FunC prog 162:=⟨by kernel_rfl⟩
instance:FunC prog 163:=⟨by kernel_rfl⟩
instance:FunC prog 164:=⟨by kernel_rfl⟩
instance:ZerF prog 133 [.one (.slice none 0 0)]:=⟨by kernel_rfl,inferInstance⟩
instance:ZerF prog 3 [.one (.int .i64 0)]:=⟨by kernel_rfl,inferInstance⟩
instance:FunC prog 166:=⟨by kernel_rfl⟩
instance:FunC prog 168:=⟨by kernel_rfl⟩
instance:FunC prog 169:=⟨by kernel_rfl⟩
instance:FunC prog 170:=⟨by kernel_rfl⟩
instance (priority:=1100) (b:Nat):StepC prog (Aa 170 (.pointer (some ⟨b,0,none⟩)) 1) True (.pointer (some ⟨b,8,none⟩)):=⟨fun _=>Au 170 b 0 1 8 64 (by kernel_rfl) (by decide)⟩
instance (b o:Nat) (k:IntKind) (l:Int):StepC prog (Ax 168 (.pointer (some ⟨b,o,none⟩)) (some (.int k l)) none none) (0≤l∧l<64) (.slice (some ⟨b,o+l.toNat,none⟩) (64 - l.toNat) (64 - l.toNat)):=⟨fun h=>by have:=Xs (P:=prog) 168 b o 64 k l 1 (by kernel_rfl) (by kernel_rfl) (by kernel_rfl) h.1 h.2;rwa [Nat.mul_one]at this⟩
instance (b o:Nat):StepC prog (Ax 168 (.pointer (some ⟨b,o,none⟩)) none none none) True (.slice (some ⟨b,o,none⟩) 64 64):=⟨fun _=>Ea (P:=prog) 168 b o 64 1 (by kernel_rfl) (by kernel_rfl) (by kernel_rfl)⟩
instance:FunC prog 171:=⟨by kernel_rfl⟩
instance (a:Int):StepC prog (Ay 5 164 (.int .u8 a)) (0≤a∧a<256) (.int .u32 a):=⟨fun h=>by have:=Fe (P:=prog) 5 164 .u8 .u32 a (by kernel_rfl) (by kernel_rfl);rwa [show IntKind.wrap .u32 a=a by simp[IntKind.wrap,IntKind.bits,IntKind.signed];omega]at this⟩
instance:FunC prog 107:=⟨by kernel_rfl⟩
instance:FunC prog 172:=⟨by kernel_rfl⟩
instance:FunC prog 110:=⟨by kernel_rfl⟩
instance:ZerF prog 190 [.one (.int .i64 0),.one (.int .i64 0),.one (.int .i64 0),.one (.int .i64 0)]:=⟨by kernel_rfl,inferInstance⟩
instance:BltC prog 190:=⟨by kernel_rfl⟩
instance:PlC prog 190 0 0 1:=⟨by kernel_rfl⟩
instance:PlC prog 190 1 1 1:=⟨by kernel_rfl⟩
instance:PlC prog 190 2 2 1:=⟨by kernel_rfl⟩
instance:PlC prog 190 3 3 1:=⟨by kernel_rfl⟩
instance:ShpC prog 190 true 4:=⟨by kernel_rfl⟩
instance:ShpC prog 193 true 1:=⟨by kernel_rfl⟩
instance (priority:=1100) (b:Nat):StepC prog (Aa 193 (.pointer (some ⟨b,0,none⟩)) 0) True (.pointer (some ⟨b,0,none⟩)):=⟨fun _=>Au 193 b 0 0 0 1 (by kernel_rfl) (by decide)⟩
instance:ShpC prog 199 true 2:=⟨by kernel_rfl⟩
instance (priority:=1100) (b:Nat):StepC prog (Aa 199 (.pointer (some ⟨b,0,none⟩)) 1) True (.pointer (some ⟨b,1,none⟩)):=⟨fun _=>Au 199 b 0 1 1 1 (by kernel_rfl) (by decide)⟩
instance:IsPt prog 110:=Su (by kernel_rfl)
instance:FunC prog 174:=⟨by kernel_rfl⟩
instance:FunC prog 175:=⟨by kernel_rfl⟩
instance:FunC prog 176:=⟨by kernel_rfl⟩
instance:ZerF prog 267 [.arr 65 (List.replicate 65 (.bool false))]:=⟨by kernel_rfl,inferInstance⟩
instance:KindC prog 118 ((.int .i64)::(List.replicate 32 (.int .u8)++(List.replicate 32 (.int .u8)++(List.replicate 32 (.int .u8))))):=⟨by kernel_rfl,by kernel_rfl,by kernel_rfl⟩
instance (b o:Nat) (k:IntKind) (i:Int):StepC prog (Ag 267 (.pointer (some ⟨b,o,none⟩)) (.int k i)) (0≤i∧i<65) (.pointer (some ⟨b,o+i.toNat,none⟩)):=⟨fun h=>by have:=Bj (P:=prog) 267 b o 65 k i 1 (by kernel_rfl) (by kernel_rfl) (by kernel_rfl) h.1 h.2;rwa [Nat.mul_one]at this⟩
instance (priority:=1100) (b:Nat):StepC prog (Aa 222 (.pointer (some ⟨b,0,none⟩)) 0) True (.pointer (some ⟨b,0,none⟩)):=⟨fun _=>Au 222 b 0 0 0 1 (by kernel_rfl) (by decide)⟩
instance (b o:Nat):StepC prog (Aa 222 (.pointer (some ⟨b,o,none⟩)) 0) True (.pointer (some ⟨b,o+0,none⟩)):=⟨fun _=>Au 222 b o 0 0 1 (by kernel_rfl) (by decide)⟩
instance:FunC prog 177:=⟨by kernel_rfl⟩
instance:FunC prog 167:=⟨by kernel_rfl⟩
instance:FunC prog 178:=⟨by kernel_rfl⟩
instance (priority:=1100) (b:Nat):StepC prog (Aa 128 (.pointer (some ⟨b,0,none⟩)) 0) True (.pointer (some ⟨b,0,none⟩)):=⟨fun _=>Au 128 b 0 0 0 1 (by kernel_rfl) (by decide)⟩
instance:PlC prog 58 1 1 1:=⟨by kernel_rfl⟩
instance:ZerF prog 271 [.one (.int .i64 0),.one (.int .i64 0),.arr 32 (u8s hzero.1)]:=⟨by kernel_rfl,inferInstance⟩
instance:BltC prog 271:=⟨by kernel_rfl⟩
instance:PlC prog 271 2 2 32:=⟨by kernel_rfl⟩
instance:ZerF prog 247 [.one (.int .i64 0),.one (.slice none 0 0)]:=⟨by kernel_rfl,inferInstance⟩
instance:BltC prog 247:=⟨by kernel_rfl⟩
instance:PlC prog 247 0 0 1:=⟨by kernel_rfl⟩
instance:PlC prog 247 1 1 1:=⟨by kernel_rfl⟩
instance:ShpC prog 247 true 2:=⟨by kernel_rfl⟩
instance:IsSl prog 55:=Pv (by kernel_rfl)
instance:IsSl prog 56:=Pv (by kernel_rfl)
instance:IsSl prog 133:=Pv (by kernel_rfl)
instance:FunC prog 181:=⟨by kernel_rfl⟩
instance:FunC prog 182:=⟨by kernel_rfl⟩
instance:BltC prog 222:=⟨by kernel_rfl⟩
instance:PlC prog 128 0 0 1:=⟨by kernel_rfl⟩
instance:FunC prog 188:=⟨by kernel_rfl⟩
instance:FunC prog 187:=⟨by kernel_rfl⟩
instance:FunC prog 190:=⟨by kernel_rfl⟩
instance:FunC prog 189:=⟨by kernel_rfl⟩
instance (priority:=1100) (b:Nat):StepC prog (Aa 222 (.pointer (some ⟨b,0,none⟩)) 1) True (.pointer (some ⟨b,1,none⟩)):=⟨fun _=>Au 222 b 0 1 1 32 (by kernel_rfl) (by decide)⟩
instance (b o:Nat):StepC prog (Aa 222 (.pointer (some ⟨b,o,none⟩)) 1) True (.pointer (some ⟨b,o+1,none⟩)):=⟨fun _=>Au 222 b o 1 1 32 (by kernel_rfl) (by decide)⟩
instance:PlC prog 222 0 0 1:=⟨by kernel_rfl⟩
instance:PlC prog 222 1 1 32:=⟨by kernel_rfl⟩
instance:PlC prog 222 2 33 32:=⟨by kernel_rfl⟩
instance:FunC prog 192:=⟨by kernel_rfl⟩
instance:FunC prog 193:=⟨by kernel_rfl⟩
instance:FunC prog 194:=⟨by kernel_rfl⟩
instance:FunC prog 196:=⟨by kernel_rfl⟩
instance:IsPt prog 64:=Su (by kernel_rfl)
instance (priority:=1100) (b:Nat):StepC prog (Aa 247 (.pointer (some ⟨b,0,none⟩)) 0) True (.pointer (some ⟨b,0,none⟩)):=⟨fun _=>Au 247 b 0 0 0 1 (by kernel_rfl) (by decide)⟩
instance (ty:TypeId) (cs:List Bool) (a:Option Addr) (n c:Nat):StepC prog (Ak .len #[243] ty cs [.slice a n c]) True (.int .i64 n):=⟨fun _=>Cn 243 ty 271 cs a n c (by kernel_rfl)⟩
instance (b o n c:Nat) (k:IntKind) (i:Int):StepC prog (Ag 243 (.slice (some ⟨b,o,none⟩) n c) (.int k i)) (0≤i∧i<n) (.pointer (some ⟨b,o+i.toNat*34,none⟩)):=⟨fun h=>Bw (P:=prog) 243 b o n c k i 34 (by kernel_rfl) (by kernel_rfl) h.1 h.2⟩
instance:ShpC prog 271 true 34:=⟨by kernel_rfl⟩
instance (priority:=1100) (b:Nat):StepC prog (Aa 271 (.pointer (some ⟨b,0,none⟩)) 0) True (.pointer (some ⟨b,0,none⟩)):=⟨fun _=>Au 271 b 0 0 0 1 (by kernel_rfl) (by decide)⟩
instance (priority:=1100) (b:Nat):StepC prog (Aa 271 (.pointer (some ⟨b,0,none⟩)) 1) True (.pointer (some ⟨b,1,none⟩)):=⟨fun _=>Au 271 b 0 1 1 1 (by kernel_rfl) (by decide)⟩
instance (priority:=1100) (b:Nat):StepC prog (Aa 271 (.pointer (some ⟨b,0,none⟩)) 2) True (.pointer (some ⟨b,2,none⟩)):=⟨fun _=>Au 271 b 0 2 2 32 (by kernel_rfl) (by decide)⟩
instance (b o:Nat):StepC prog (Aa 271 (.pointer (some ⟨b,o,none⟩)) 2) True (.pointer (some ⟨b,o+2,none⟩)):=⟨fun _=>Au 271 b o 2 2 32 (by kernel_rfl) (by decide)⟩
instance:PlC prog 271 0 0 1:=⟨by kernel_rfl⟩
instance:PlC prog 271 1 1 1:=⟨by kernel_rfl⟩
instance:ZerF prog 285 [.one (.int .i64 0),.one (.int .i64 0),.arr 32 (u8s hzero.1),.one (.int .i64 0),.one (.int .i64 0),.arr 32 (u8s hzero.1)]:=⟨by kernel_rfl,inferInstance⟩
instance:BltC prog 285:=⟨by kernel_rfl⟩
instance:PlC prog 285 0 0 34:=⟨by kernel_rfl⟩
instance:PlC prog 285 1 34 34:=⟨by kernel_rfl⟩
instance:ShpC prog 285 true 68:=⟨by kernel_rfl⟩
instance (priority:=1200) (b:Nat) (k:IntKind):StepC prog (Ag 285 (.pointer (some ⟨b,0,none⟩)) (.int k 0)) True (.pointer (some ⟨b,0,none⟩)):=⟨fun _=>by have:=Bj (P:=prog) 285 b 0 2 k 0 34 (by kernel_rfl) (by kernel_rfl) (by kernel_rfl) (by omega) (by omega);exact this⟩
instance (priority:=1200) (b:Nat) (k:IntKind):StepC prog (Ag 285 (.pointer (some ⟨b,0,none⟩)) (.int k 1)) True (.pointer (some ⟨b,34,none⟩)):=⟨fun _=>by have:=Bj (P:=prog) 285 b 0 2 k 1 34 (by kernel_rfl) (by kernel_rfl) (by kernel_rfl) (by omega) (by omega);exact this⟩
instance:FunC prog 198:=⟨by kernel_rfl⟩
instance:FunC prog 199:=⟨by kernel_rfl⟩
instance (priority:=1100) (b:Nat):StepC prog (Aa 222 (.pointer (some ⟨b,0,none⟩)) 2) True (.pointer (some ⟨b,33,none⟩)):=⟨fun _=>Au 222 b 0 2 33 32 (by kernel_rfl) (by decide)⟩
instance:IsSl prog 137:=Pv (by kernel_rfl)
instance:FunC prog 200:=⟨by kernel_rfl⟩
instance:FunC prog 203:=⟨by kernel_rfl⟩
instance:ZerC prog 168 (List.replicate 64 (.int .u8 0)):=⟨by kernel_rfl⟩
instance (b o:Nat) (k:IntKind) (i:Int):StepC prog (Ag 168 (.pointer (some ⟨b,o,none⟩)) (.int k i)) (0≤i∧i<64) (.pointer (some ⟨b,o+i.toNat,none⟩)):=⟨fun h=>by have:=Bj (P:=prog) 168 b o 64 k i 1 (by kernel_rfl) (by kernel_rfl) (by kernel_rfl) h.1 h.2;rwa [Nat.mul_one]at this⟩
instance:FunC prog 204:=⟨by kernel_rfl⟩
instance (priority:=1100) (b:Nat):StepC prog (Aa 170 (.pointer (some ⟨b,0,none⟩)) 3) True (.pointer (some ⟨b,73,none⟩)):=⟨fun _=>Au 170 b 0 3 73 64 (by kernel_rfl) (by decide)⟩
instance:ZerF prog 292 [.one (.int .i64 0),.one (.int .i64 0),.one (.int .i64 0),.one (.int .i64 0),.one (.int .i64 0)]:=⟨by kernel_rfl,inferInstance⟩
instance:BltC prog 292:=⟨by kernel_rfl⟩
instance:PlC prog 292 0 0 1:=⟨by kernel_rfl⟩
instance:PlC prog 292 1 1 1:=⟨by kernel_rfl⟩
instance:PlC prog 292 2 2 1:=⟨by kernel_rfl⟩
instance:PlC prog 292 3 3 1:=⟨by kernel_rfl⟩
instance:PlC prog 292 4 4 1:=⟨by kernel_rfl⟩
instance:FunC prog 205:=⟨by kernel_rfl⟩
instance (a:Int):StepC prog (Ay 173 3 (.int .u64 a)) ((-9223372036854775808)≤a∧a<9223372036854775808) (.int .i64 a):=⟨fun h=>by have:=Fe (P:=prog) 173 3 .u64 .i64 a (by kernel_rfl) (by kernel_rfl);rwa [show IntKind.wrap .i64 a=a by simp[IntKind.wrap,IntKind.bits,IntKind.signed];omega]at this⟩
instance:ZerF prog 150 [.one .nilFunc]:=⟨by kernel_rfl,inferInstance⟩
instance:FunC prog 210:=⟨by kernel_rfl⟩
instance:ShpC prog 150 false 1:=⟨by kernel_rfl⟩
instance:FunC prog 202:=⟨by kernel_rfl⟩
instance:FunC prog 191:=⟨by kernel_rfl⟩
instance:IsSl prog 63:=Pv (by kernel_rfl)
instance:FunC prog 211:=⟨by kernel_rfl⟩
instance:FunC prog 214:=⟨by kernel_rfl⟩
instance:FunC prog 215:=⟨by kernel_rfl⟩
instance:FunC prog 217:=⟨by kernel_rfl⟩
instance:FunC prog 218:=⟨by kernel_rfl⟩
instance:SliC prog 41 9 1 16:=⟨by kernel_rfl⟩
instance:SliC prog 24 75 101 136:=⟨by kernel_rfl⟩
instance:SliC prog 25 43 33 56:=⟨by kernel_rfl⟩
instance:SliC prog 26 45 3 32:=⟨by kernel_rfl⟩
instance:SliC prog 55 118 97 104:=⟨by kernel_rfl⟩
instance:SliC prog 63 128 33 40:=⟨by kernel_rfl⟩
instance:SliC prog 111 116 64 64:=⟨by kernel_rfl⟩
instance:SliC prog 49 113 33 56:=⟨by kernel_rfl⟩
instance:SliC prog 137 23 32 32:=⟨by kernel_rfl⟩
instance:SliC prog 89 5 1 1:=⟨by kernel_rfl⟩
instance:SliC prog 65 64 1 8:=⟨by kernel_rfl⟩
instance:SliC prog 133 3 1 8:=⟨by kernel_rfl⟩
instance:SliC prog 243 271 34 48:=⟨by kernel_rfl⟩
instance:SliC prog 56 222 66 96:=⟨by kernel_rfl⟩
instance:SliC prog 234 133 1 24:=⟨by kernel_rfl⟩
end Go.Proofs.YtgbenhmdamnmcaaGreat
