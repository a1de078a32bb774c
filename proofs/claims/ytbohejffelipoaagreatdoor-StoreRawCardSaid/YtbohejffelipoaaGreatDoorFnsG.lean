/-
  Several texts in one: what functions that the law reaches compute. No conditions but those named in each line.
-/
import Derived.Test.YtbohejffelipoaaGreatDoorFnsE
import Derived.Test.YtbohejffelipoaaGreatDoorFnsC
import Derived.Test.YtbohejffelipoaaGreatDoorFnsD
import Derived.Test.YtbohejffelipoaaGreatDoorFnsF
import Derived.Test.YtbohejffelipoaaGreatDoorFnsB
import Derived.Test.YtbohejffelipoaaGreatDoorAbsE
import Derived.Shelf.Strings.OnBuilder
import Derived.Shelf.Strings.Search3
import Derived.Shelf.Strings.Count
import Derived.Shelf.Strconv.Itoa4
import Derived.Test.YtbohejffelipoaaGreatDoorProg
import Derived.Shelf.SlGeneric
import Derived.Shelf.SlIter.Nil
import Derived.Shelf.SortM.Plain
import Derived.Shelf.SortM.SortNone
import Derived.Ground.GgzProg
import Derived.Ground.SlgmProg
import Derived.Test.YtbohejffelipoaaGreatDoorChecked
import Derived.WalkKit
import Derived.Test.YtbohejffelipoaaGreatDoorFnsA
set_option linter.unusedVariables false
set_option linter.unusedSimpArgs false
set_option maxHeartbeats 4000000
namespace Go.Proofs.YtbohejffelipoaaGreatDoor
open Go Go.Abs Go.Abs.F
def sm(n most:Nat):Nat:=if most<n then most+1 else n
def x6(b:Bs)(most at_:Nat)(bad:Bool):Nat×Nat×Bool:=(sm (ki b at_ bad).1 most,(ki b at_ bad).2.1,(ki b at_ bad).2.2)
def gw(b:Bs):bM×Bool:=
 let p:=x6 b 1073741824 (if b=[]then 0 else 1) (decide (b=[]))
 let a:bM:={ bN with k:=(b.headD 0).toNat,v:=(p.1:Nat) }
 if(b.headD 0).toNat=1 then
  let i:=x6 b 1073741824 p.2.1 p.2.2
  let t:=x6 b 4 i.2.1 i.2.2
  let f:=x6 b 1099511627776 t.2.1 t.2.2
  let o:=x6 b 1099511627776 f.2.1 f.2.2
  let u:=ki b o.2.1 o.2.2
  ({ a with i:=(i.1:Nat),t:=(t.1:Nat),f:=(f.1:Nat),o:=(o.1:Nat),u:=(u.1%4294967296:Nat) },u.2.2)
 else if(b.headD 0).toNat=2 then
  let i:=x6 b 1073741824 p.2.1 p.2.2
  ({ a with i:=(i.1:Nat) },i.2.2)
 else if(b.headD 0).toNat=4 then
  let m:=ki b p.2.1 p.2.2
  ({ a with x:=(jO b m.1 m.2.1 m.2.2).1 },(jO b m.1 m.2.1 m.2.2).2.2)
 else(a,p.2.2)
theorem oT{bs pre post:Bs}{n at_ most:Nat}(b:bs=pre++(aq n++post))(a:at_=pre.length)(d:n<=most)(c:most<2 ^ 64):x6 bs most at_ false=(n,at_+(aq n).length,false):=by
 have:ki bs at_ false=(n,at_+(aq n).length,false):=by
  unfold ki;rw[me b a (by omega)];rfl
 unfold x6;rw[this];simp only[sm,ae (show ¬most<n by omega)]
theorem Cd{bs pre post:Bs}{n at_:Nat}(b:bs=pre++(aq n++post))(a:at_=pre.length)(c:n<2 ^ 64):ki bs at_ false=(n,at_+(aq n).length,false):=by
 unfold ki;rw[me b a c];rfl
theorem DJ{e:bM}(h:bR e=true)(hw:nI e):gw (bF e)=(e,false):=by
 obtain⟨v0,v1,k0,k1,V,X,Y,Z⟩:=eN h;obtain⟨w0,w1⟩:=hw;have I:(UInt8.ofNat e.k.toNat).toNat=e.k.toNat:=by rw[ey];omega
 have D:bF e≠[]:=by simp[bF]
 have g:((bF e).headD 0).toNat=e.k.toNat:=by rw[<-I];rfl
 have H:bF e=[UInt8.ofNat e.k.toNat]++(aq e.v.toNat++(dc (dU e)++e.x)):=by simp[bF]
 have n1:=oT (most:=1073741824) H rfl (by omega) (by omega);have E:(e.v.toNat:Int)=e.v:=ic v0;unfold gw;rw[ae D,aR D];rcases (by omega:e.k=1\/e.k=2\/e.k=3\/e.k=4)with hk | hk | hk | hk
 ·obtain⟨q,Sk,Sl,Sj,t1,U,f1,Sm⟩:=V hk;have d:((bF e).headD 0).toNat=1:=by rw[g,hk];rfl
  have j:dU e=[e.i.toNat,e.t.toNat,e.f.toNat,e.o.toNat,e.u.toNat]:=by simp[dU,hk]
  have n:bF e=([UInt8.ofNat e.k.toNat]++aq e.v.toNat)++(aq e.i.toNat++(aq e.t.toNat++aq e.f.toNat++aq e.o.toNat++aq e.u.toNat)):=by simp[bF,j,dc,q]
  have Q:bF e=([UInt8.ofNat e.k.toNat]++aq e.v.toNat++aq e.i.toNat)++(aq e.t.toNat++(aq e.f.toNat++aq e.o.toNat++aq e.u.toNat)):=by simp[bF,j,dc,q]
  have R:bF e=([UInt8.ofNat e.k.toNat]++aq e.v.toNat++aq e.i.toNat++aq e.t.toNat)++(aq e.f.toNat++(aq e.o.toNat++aq e.u.toNat)):=by simp[bF,j,dc,q]
  have S:bF e=([UInt8.ofNat e.k.toNat]++aq e.v.toNat++aq e.i.toNat++aq e.t.toNat++aq e.f.toNat)++(aq e.o.toNat++aq e.u.toNat):=by simp[bF,j,dc,q]
  have T:bF e=([UInt8.ofNat e.k.toNat]++aq e.v.toNat++aq e.i.toNat++aq e.t.toNat++aq e.f.toNat++aq e.o.toNat)++(aq e.u.toNat++[]):=by simp[bF,j,dc,q]
  have n2:=oT (most:=1073741824) n rfl (by omega) (by omega);have n3:=oT (most:=4) Q rfl (by omega) (by omega);have J:=oT (most:=1099511627776) R rfl (by omega) (by omega);have N:=oT (most:=1099511627776) S rfl (by omega) (by omega);have O:=Cd T rfl (by omega);simp only[aI,bB,dO,a7]at n1 n2 n3 J N O;simp only[d,n1,n2,n3,J,N,O,bY];rw[eU (show e.u.toNat<4294967296 by omega)];simp only[E,ic (show 0<=e.i by omega),ic Sj,ic U,ic (show 0<=e.o by omega),ic w0];obtain⟨F,G,B,r,w,y,z,C⟩:=e;simp only at hk q;subst hk q;rfl
 ·have d:((bF e).headD 0).toNat=2:=by rw[g,hk];rfl
  obtain⟨q0,q1,c⟩:=X hk;have j:dU e=[e.i.toNat]:=by simp[dU,hk]
  have n:bF e=([UInt8.ofNat e.k.toNat]++aq e.v.toNat)++(aq e.i.toNat++e.x):=by simp[bF,j,dc]
  have n2:=oT (most:=1073741824) n rfl (by omega) (by omega);simp only[aI,bB,dO,a7]at n1 n2;simp only[d,n1,n2,bY,ae (show ¬(2:Nat)=1 by decide)];rw[E,ic (show 0<=e.i by omega)];obtain⟨F,G,B,r,w,y,z,C⟩:=e;simp only at hk;subst hk;obtain rfl:r=0:=bw bM.t c;obtain rfl:w=0:=bw bM.f c;obtain rfl:y=0:=bw bM.o c;obtain rfl:z=0:=bw bM.u c;obtain rfl:C=[]:=bw bM.x c;rfl
 ·have d:((bF e).headD 0).toNat=3:=by rw[g,hk];rfl
  simp only[bB,dO,a7]at n1;simp only[d,n1,ae (show ¬(3:Nat)=1 by decide),ae (show ¬(3:Nat)=2 by decide),ae (show ¬(3:Nat)=4 by decide)];rw[E];have c:=(Y hk).2;obtain⟨F,G,B,r,w,y,z,C⟩:=e;simp only at hk;subst hk;obtain rfl:B=0:=bw bM.i c;obtain rfl:r=0:=bw bM.t c;obtain rfl:w=0:=bw bM.f c;obtain rfl:y=0:=bw bM.o c;obtain rfl:z=0:=bw bM.u c;obtain rfl:C=[]:=bw bM.x c;rfl
 ·have d:((bF e).headD 0).toNat=4:=by rw[g,hk];rfl
  obtain⟨x0,c,_⟩:=Z hk;have j:dU e=[e.x.length]:=by simp[dU,hk]
  have n:bF e=([UInt8.ofNat e.k.toNat]++aq e.v.toNat)++(aq e.x.length++e.x):=by simp[bF,j,dc]
  have n2:=Cd n rfl (by omega);have hl:(bF e).length=1+(aq e.v.toNat).length+(aq e.x.length).length+e.x.length:=by rw[n];simp;omega
  have hd:(bF e).drop (1+(aq e.v.toNat).length+(aq e.x.length).length)=e.x:=by
   rw[n,<-bg,Ad];simp;omega
  simp only[aI,bB,dO,a7]at n1 n2
  have hr:jO (bF e) e.x.length (1+(aq e.v.toNat).length+(aq e.x.length).length) false=(e.x,1+(aq e.v.toNat).length+(aq e.x.length).length+e.x.length,false):=by
   unfold jO;rw[ae (by rw[hl];simp),hd,dE]
  simp only[d,n1,n2,hr,ae (show ¬(4:Nat)=1 by decide),ae (show ¬(4:Nat)=2 by decide),bY];rw[E];obtain⟨F,G,B,r,w,y,z,C⟩:=e;simp only at hk;subst hk;obtain rfl:B=0:=bw bM.i c;obtain rfl:r=0:=bw bM.t c;obtain rfl:w=0:=bw bM.f c;obtain rfl:y=0:=bw bM.o c;obtain rfl:z=0:=bw bM.u c;rfl
theorem OP(b:Bs)(o:nI (gw b).1)(j:∀e,mB b=some e->nI e):mB b=if(gw b).2=false/\ct (gw b).1=some b then some (gw b).1 else none:=by
 by_cases h:(gw b).2=false/\ct (gw b).1=some b
 ·rw[af h];have c:=h.2;unfold ct at c;split at c
  ·rename_i g;have d:bF (gw b).1=b:=by simpa using c
   have:=GK g o
   rwa [d]at this
  ·cases c
 ·rw[ae h];cases k:mB b with
  |none=>rfl
  |some e=>
   obtain⟨g,d⟩:=rY k;have n:=DJ g (j e k);rw[<-d]at n;exfalso;apply h;rw[n];refine⟨rfl,?_⟩;unfold ct;rw[af g,<-d]
theorem z0:(0:Int)<=0:=by decide
theorem z1:(0:Int)<4294967296:=by decide
theorem yZ{b:Bs}{e:bM}(h:mB b=some e):nI e:=by
 unfold mB at h;split at h
 ·cases h
 ·rename_i c r;split at h
  ·cases h
  ·rename_i f bad a;split at h
   ·cases h;unfold cD at a;simp only at a;split at a
    ·cases a;refine⟨z6 _,?_⟩
     have d:∀at_ bad,((nZ (c::r) 4294967295 at_ bad).1:Int)<4294967296:=λat_ bad=>by
      have := @Dr (c::r) 4294967295 at_ bad;omega
     exact d _ _
    ·split at a
     ·cases a;exact⟨z0,z1⟩
     ·split at a
      ·split at a
       ·cases a
       ·cases a;exact⟨z0,z1⟩
      ·cases a;exact⟨z0,z1⟩
   ·cases h
theorem LG(b:Bs):nI (gw b).1:=by
 unfold gw;simp only;split
 ·refine⟨z6 _,?_⟩;have a:∀n:Nat,((n%4294967296:Nat):Int)<4294967296:=λn=>by omega
  exact a _
 ·split
  ·exact⟨z0,z1⟩
  ·split
   ·exact⟨z0,z1⟩
   ·exact⟨z0,z1⟩
theorem LH(b:Bs):mB b=if(gw b).2=false/\ct (gw b).1=some b then some (gw b).1 else none:=OP b (LG b) λe h=>yZ h
structure Aq(s0 u:St)(c e:Nat)(b:Bs)(at_:Nat)(bad:Bool)(w:bM):Prop where
 wf:u.wf
 sz:s0.size<=u.size
 old:∀k,k<s0.size->u.get k=s0.get k
 c0:s0.size<=c
 e0:s0.size<=e
 ne:e≠c
 rd:u.get c=some (.K true (cC b at_ bad))
 en:u.get e=some (.K true (cE w))
 le:at_<=b.length
section
variable {s0 u:St}{c e at_:Nat}{b:Bs}{bad:Bool}{w:bM}
theorem Aq.num(d:Nat)(h:Aq s0 u c e b at_ bad w)(j:b.length<=100000):∃g,R (d+2) 142 [Z (.ptr c 0)] u=some (J6 ((ki b at_ bad).1:Nat),g)/\Aq s0 g c e b (ki b at_ bad).2.1 (ki b at_ bad).2.2 w:=by
 obtain⟨t,i,r,a,le⟩:=Ce d h.wf h.rd j h.le;have:=h.c0;exact⟨t,i,a.1,bl h.sz a.2.1,λk f=>by rw[a.2.2 k (bh f h.sz) (by omega)];exact h.old k f,h.c0,h.e0,h.ne,r,by rw[a.2.2 e (h.wf.lt h.en) h.ne];exact h.en,le⟩
theorem Aq.set(h:Aq s0 u c e b at_ bad w){j:Nat}{v:S}{w':bM}(f:j<8)(l:(cE w).set j v=cE w'):∃a,aj 1 (Z (.ptr e j)) (Z v) u=some (tt,a)/\Aq s0 a c e b at_ bad w':=by
 have m:=aJ (σ:=u) (i:=e) (o:=j) (x:=v) h.en (by rw[mq];exact f);have d:=h.e0;refine⟨_,m,St.wf_set h.wf (h.wf.lt h.en) _,by simpa using h.sz,λk g=>by rw[St.bO (by omega)];exact h.old k g,h.c0,h.e0,h.ne,by rw[St.bO (λx=>h.ne x.symm)];exact h.rd,?_,h.le⟩;rw[<-l];exact St.dh
theorem Aq.text(d:Nat)(h:Aq s0 u c e b at_ bad w)(m:b.length<=100000){n:Nat}:∃i,R (d+1) 143 [Z (.ptr c 0),J6 (n:Nat)] u=some (Z (.str (jO b n at_ bad).1),i)/\Aq s0 i c e b (jO b n at_ bad).2.1 (jO b n at_ bad).2.2 w:=by
 obtain⟨t,j,r,a⟩:=HL (n:=n) d h.wf h.rd m h.le;have:=h.c0;have f:=h.le;refine⟨t,j,a.1,bl h.sz a.2.1,λk g=>by rw[a.2.2 k (bh g h.sz) (by omega)];exact h.old k g,h.c0,h.e0,h.ne,r,by rw[a.2.2 e (h.wf.lt h.en) h.ne];exact h.en,?_⟩;unfold jO;split
 ·exact f
 ·rename_i l;have:¬b.length-at_<n:=λx=>l (.inr x)
  show at_+n<=b.length
  omega
theorem Aq.nx(d:Nat)(h:Aq s0 u c e b at_ bad w)(i:b.length<=100000)(most:Nat)(j:most<2 ^ 62):∃a,(∃n:Nat,R (d+2) 142 [Z (.ptr c 0)] u=some (J6 (n:Nat),a)/\R (d+2) 141 [J6 (n:Nat),J6 (most:Nat)] a=some (J (x6 b most at_ bad).1,a)) ∧
 Aq s0 a c e b (x6 b most at_ bad).2.1 (x6 b most at_ bad).2.2 w:=by
 obtain⟨a,f,g⟩:=h.num d i;exact⟨a,⟨_,f,HU (d+1) _ most j⟩,g⟩
end
section
variable {s t:St}{b:Bs}
noncomputable def k7(aC:bc)(a:List T)(e:St):Option (T×St):=
 bd (ay 8 (vq a 3) e.get) λm=>
 ax (aC 89 [m] e) λh b=>
 bd (ai h 0) λn=>
 bd (ai h 1) λo=>
 bd (ba (vq a 2)) λp=>
 bd (ab 2 p) λq=>
 bd (aa q b.get) λd=>
 bd (gF d (some o)) λr=>
 bd (gF d (ah .neq r (J 0))) λs=>
 bd (pT d s) λc=>
 bd (gF c (some n)) λt=>
 bd (gF c (some (vq a 0))) λu=>
 bd (gF c (ah .neq t u)) λv=>
 bd (pT c v) λw=>
 br w (bd (aO (aA [iz,iz,iz,iz,iz,iz,.int .u32 0,.str []] [])) λx=>
 ax (aj 8 (vq a 1) x b) λ_ f=>
 bd (rC (ay 8 (vq a 1) f.get) (rT (J 2) (some []))) λi=>bd (aD i) λk=>
 some (k,f))
 (bd (ay 8 (vq a 3) b.get) λy=>
 ax (aj 8 (vq a 1) y b) λ_ g=>
 bd (rC (ay 8 (vq a 1) g.get) (rT (J 0) (some []))) λj=>bd (aD j) λl=>
 some (l,g))
theorem ue(a b:Bs):ah .neq (Z (.str a)) (Z (.str b))=some (B (!decide (a=b))):=by simp[ah,Az]
theorem HK(d:Nat){s0 u:St}{n c m at_:Nat}{bad:Bool}{w:bM}(h:Aq s0 u c m b at_ bad w)(S:n<s0.size)(T:s0.get n=some (.K true (cE bN)))(hs:s.size<=n)(Q:Gr s s0)(Y:nI w)(hx:w.x.length<=8000) :
 ∃τ,k7 (R (d+5)) [Z (.str b),Z (.ptr n 0),Z (.ptr c 0),Z (.ptr m 0)] u=some (qZ (if bad=false/\ct w=some b then some w else none),τ)/\Gr s τ:=by
 unfold k7;have X:=h.e0;have U:=h.c0;have H:=eA (g:=u.get) h.en;obtain⟨v,j,o⟩:=Ch d h.wf w Y hx;have z:ba (Z (.ptr c 0))=some (Z (.ptr c 0)):=rfl;have D:ab 2 (Z (.ptr c 0))=some (Z (.ptr c 2)):=by simp[ab]
 have rc:v.get c=some (.K true (cC b at_ bad)):=o.get h.rd h.wf;have G:aa (Z (.ptr c 2)) v.get=some (B bad):=ag rc rfl;have rm:v.get m=some (.K true (cE w)):=o.get h.en h.wf;have l9:=eA (g:=v.get) rm;have vn:v.get n=some (.K true (cE bN)):=by rw[o.2.2 n (bh S h.sz),h.old n S];exact T
 have gs:∀O:er,Gr s (v.set n O):=λO=>by
  have hz:=o.2.1;have Sj:=h.sz;refine⟨St.wf_set o.wf (by omega) _,by simp;have:=Q.2.1;omega,λk V => ?_⟩;rw[St.bO (by omega),o.2.2 k (by omega),h.old k (by omega),Q.2.2 k V]
 have E:∀C,aj 8 (Z (.ptr n 0)) (AE C) v=some (tt,v.set n (.K true (cE C)))/\ay 8 (Z (.ptr n 0)) (v.set n (.K true (cE C))).get=some (AE C):=λC=>⟨js vn rfl,eA (St.dh)⟩
 by_cases N:bad=false/\ct w=some b
 ·obtain⟨rfl,F⟩:=N;rw[af ⟨rfl,F⟩];rw[F]at j;obtain⟨t,y⟩:=E w;have I:=ue b b;refine⟨v.set n (.K true (cE w)),?_,gs _⟩;generalize R (d+5)=r at*;simp[H,j,ai,z,D,G,I,l9,t,y,rC,rT,aD,a8]
 ·rw[ae N];obtain⟨t,y⟩:=E bN;refine⟨v.set n (.K true (cE bN)),?_,gs _⟩;cases bad with
  |true=>
   generalize R (d+5)=r at*;cases q:ct w with
   |none=>rw[q]at j;simp[H,j,ai,z,D,G,bD,uS,t,y,rC,rT,aD,a8]
   |some bs=>rw[q]at j;simp[H,j,ai,z,D,G,bD,uS,t,y,rC,rT,aD,a8]
  |false=>
   generalize R (d+5)=r at*;cases q:ct w with
   |none=>rw[q]at j;simp[H,j,ai,z,D,G,bD,uS,t,y,rC,rT,aD,a8]
   |some bs=>
    rw[q]at j;have J:bs≠b:=λe=>N ⟨rfl,by rw[q,e]⟩
    have I:=ue bs b;rw[aR J]at I;simp[H,j,ai,z,D,G,I,uS,t,y,rC,rT,aD,a8]
theorem DK(d:Nat)(SU:s.wf)(hl:b.length<=8000):∃t,R (d+6) 101 [Z (.str b)] s=some (qZ (mB b),t)/\Gr s t:=by
 rw[I4];unfold f101;obtain⟨n,hn⟩:=aZ (s.size);obtain⟨s1,Sk⟩:=aZ (s.push (.K true (cE bN)));have Sm:aE s (a6 [iz,iz,iz,iz,iz,iz,.int .u32 0,.str []])=some (Z (.ptr n 0),s1):=by rw[Sk,hn];rfl
 have g1:Gr s s1:=by rw[Sk];exact Gr.push SU _
 have z1:s1.size=n+1:=by rw[Sk,hn];rfl
 have b1:s1.get n=some (.K true (cE bN)):=by rw[Sk,hn];exact St.ec
 have E:aO (aA [.str [],iz,.bool false] [(0,1,Z (.str b))])=some (.v (.agg (cC b 0 false))):=rfl;obtain⟨s2,Sl⟩:=aZ (s1.push (.K true (cC b 0 false)));have Sn:aE s1 (b6 (.v (.agg (cC b 0 false))))=some (Z (.ptr (n+1) 0),s2):=by rw[Sl,<-z1];rfl
 have g2:Gr s1 s2:=by rw[Sl];exact Gr.push g1.wf _
 have z2:s2.size=n+2:=by rw[Sl];simp[z1]
 have b2:s2.get (n+1)=some (.K true (cC b 0 false)):=by rw[Sl,<-z1];exact St.ec
 obtain⟨s3,e3,O,Sj⟩:=Hl (d+4) g2.wf b2;obtain⟨a0,G⟩:=aZ (if b=[]then 0 else 1);obtain⟨x0,T⟩:=aZ (decide (b=[]));rw[<-G,<-T]at O;obtain⟨q,H⟩:=aZ ((b.headD 0).toNat);rw[<-H]at e3;have SR:q<256:=by rw[H];exact(b.headD 0).toNat_lt
 have wk:IntKind.i64.wrap ((q:Nat):Int)=((q:Nat):Int):=fJ _ (by omega);obtain⟨w0,z⟩:∃w0:bM,w0={ bN with k:=(q:Nat) }:=⟨_,rfl⟩;have Y:aO (aA [iz,iz,iz,iz,iz,iz,.int .u32 0,.str []] [(0,1,J (q:Nat))])=some (AE w0):=by rw[z];rfl
 obtain⟨s4,I⟩:=aZ (s3.push (.K true (cE bN)));obtain⟨m,Sy⟩:=aZ (s3.size);have Sp:aE s3 (a6 [iz,iz,iz,iz,iz,iz,.int .u32 0,.str []])=some (Z (.ptr m 0),s4):=by rw[I,Sy];rfl
 have b4:s4.get m=some (.K true (cE bN)):=by rw[I,Sy];exact St.ec
 have SS:n+2<=m:=by have:=Sj.2.1;omega
 have z4:s4.size=m+1:=by rw[I];simp[Sy]
 obtain⟨s5,L⟩:=aZ (s4.set m (.K true (cE w0)));have Sx:=js (e:=w0) b4 rfl;rw[<-L]at Sx;have F:=Sx
 have R5:Aq s1 s5 (n+1) m b a0 x0 w0:=by
  refine⟨by rw[L,I];exact St.wf_set (St.bo Sj.1 _) (by simp[<-Sy]) _,by rw[L];simp[z4];omega,λk hk => ?_,by omega,by omega,by omega,?_,by rw[L];exact St.dh,?_⟩
  ·rw[L,St.bO (by omega),I,St.j5 (by omega),Sj.2.2 k (by omega) (by omega),g2.2.2 k hk]
  ·rw[L,St.bO (by omega),I,St.j5 (by omega)];exact O
  ·rw[G];split
   ·omega
   ·rename_i h;exact ry.2 h
 have S:b.length<=100000:=by omega
 obtain⟨s6,⟨v6,e6,e7⟩,R6⟩:=R5.nx (d+3) S 1073741824 (by omega);obtain⟨p,hp⟩:=aZ (x6 b 1073741824 a0 x0);rw[<-hp]at e7 R6;obtain⟨w1,A⟩:∃w1:bM,w1={ w0 with v:=(p.1:Nat) }:=⟨_,rfl⟩;obtain⟨s8,e8,X⟩:=R6.set (j:=1) (v := .int .i64 p.1) (w':=w1) (by omega) (by rw[A];rfl);have l8:aa (Z (.ptr m 0)) s8.get=some (J (q:Nat)):=ag X.en (by rw[A,z];rfl);have fe:∀j,ab j (Z (.ptr m 0))=some (Z (.ptr m j)):=λj=>by simp[ab]
 have fc:∀j,ab j (Z (.ptr (n+1) 0))=some (Z (.ptr (n+1) j)):=λj=>by simp[ab]
 have an:ba (Z (.ptr (n+1) 0))=some (Z (.ptr (n+1) 0)):=rfl
 have g:∀(u:St) (a:Nat) (bad:Bool) (w:bM),Aq s1 u (n+1) m b a bad w->nI w->w.x.length<=8000->∃τ,k7 (R (d+5)) [Z (.str b),Z (.ptr n 0),Z (.ptr (n+1) 0),Z (.ptr m 0)] u=some (qZ (if bad=false/\ct w=some b then some w else none),τ)/\Gr s τ:=λu a bad w h hw hx=>
  HK d h (by omega) b1 (by omega) g1 hw hx
 have y:∀(u:St) (a:Nat) (bad:Bool) (w:bM),Aq s1 u (n+1) m b a bad w->∀most,most<2 ^ 62->∃u',(∃v:Nat,R (d+5) 142 [Z (.ptr (n+1) 0)] u=some (J6 (v:Nat),u')/\R (d+5) 141 [J6 (v:Nat),J6 (most:Nat)] u'=some (J (x6 b most a bad).1,u')) ∧
  Aq s1 u' (n+1) m b (x6 b most a bad).2.1 (x6 b most a bad).2.2 w:=λu a bad w h most Sy=>h.nx (d+3) S most Sy
 have B:nI w1:=by rw[A,z];exact⟨zZ 0,(by decide:(0:Int)<4294967296)⟩
 have Sw:w1.x.length<=8000:=by rw[A,z];simp[bN]
 rw[LH b];clear Sj O g2 R5 R6 Sx;simp only[aH,Nat.reduceAdd]at e3 e6 e7;by_cases k1:q=1
 ·have d1:decide (((q:Nat):Int)=1)=true:=aK (by omega);obtain⟨u1,⟨x1,Ss,SB⟩,U⟩:=y s8 _ _ _ X 1073741824 (by omega);obtain⟨l,Q⟩:=aZ (x6 b 1073741824 p.2.1 p.2.2);rw[<-Q]at SB U;obtain⟨u2,⟨x2,Sz,SO⟩,r2⟩:=y u1 _ _ _ U 4 (by omega);obtain⟨P,SF⟩:=aZ (x6 b 4 l.2.1 l.2.2);rw[<-SF]at SO r2;obtain⟨u3,SA,O⟩:=r2.set (j:=2) (v := .int .i64 l.1) (w':={ w1 with i:=(l.1:Nat) }) (by omega) rfl;obtain⟨u4,a4,r4⟩:=O.set (j:=3) (v := .int .i64 P.1) (w':={ w1 with i:=(l.1:Nat),t:=(P.1:Nat) }) (by omega) rfl;obtain⟨u5,⟨x5,a5,SP⟩,r5⟩:=y u4 _ _ _ r4 1099511627776 (by omega);obtain⟨V,SC⟩:=aZ (x6 b 1099511627776 P.2.1 P.2.2);rw[<-SC]at SP r5;obtain⟨u6,⟨SV,SQ,c6⟩,r6⟩:=y u5 _ _ _ r5 1099511627776 (by omega);obtain⟨W,SE⟩:=aZ (x6 b 1099511627776 V.2.1 V.2.2);rw[<-SE]at c6 r6;obtain⟨u7,a7,r7⟩:=r6.set (j:=4) (v := .int .i64 V.1) (w':={ w1 with i:=(l.1:Nat),t:=(P.1:Nat),f:=(V.1:Nat) }) (by omega) rfl;obtain⟨u8,a8,r8⟩:=r7.set (j:=5) (v := .int .i64 W.1) (w':={ w1 with i:=(l.1:Nat),t:=(P.1:Nat),f:=(V.1:Nat),o:=(W.1:Nat) }) (by omega) rfl;obtain⟨u9,a9,r9⟩:=r8.num (d+3) S;obtain⟨M,SG⟩:=aZ (ki b W.2.1 W.2.2);rw[<-SG]at a9 r9;have wU:IntKind.u32.wrap (M.1:Int)=((M.1%4294967296:Nat):Int):=wrap32 _;obtain⟨SN,SI,SH⟩:=r9.set (j:=6) (v := .int .u32 (M.1%4294967296:Nat)) (w':={ w1 with i:=(l.1:Nat),t:=(P.1:Nat),f:=(V.1:Nat),o:=(W.1:Nat),u:=(M.1%4294967296:Nat) }) (by omega) rfl;obtain⟨τ,D,gt⟩:=g SN _ _ _ SH ⟨z6 _,by show((M.1%4294967296:Nat):Int)<4294967296;omega⟩ Sw
  have c:gw b=({ w1 with i:=(l.1:Nat),t:=(P.1:Nat),f:=(V.1:Nat),o:=(W.1:Nat),u:=(M.1%4294967296:Nat) },M.2.2):=by
   unfold gw;simp only[<-H,<-G,<-T,<-hp,<-Q,<-SF,<-SC,<-SE,<-SG,af k1,A,z]
  rw[c];refine⟨τ,?_,gt⟩;clear y g U r2 O r4 r5 r6 r7 r8 r9 SH c X;unfold k7 at D;simp only[]at D ⊢;generalize qZ (if M.2.2=false/\ct { w1 with i:=(l.1:Nat),t:=(P.1:Nat),f:=(V.1:Nat),o:=(W.1:Nat),u:=(M.1%4294967296:Nat) }=some b then some { w1 with i:=(l.1:Nat),t:=(P.1:Nat),f:=(V.1:Nat),o:=(W.1:Nat),u:=(M.1%4294967296:Nat) } else none)=Sr at*;simp only[aH,Nat.reduceAdd]at a9;generalize R (d+5)=r,(p.1:Int)=PV,(l.1:Int)=IV,(P.1:Int)=TV,(V.1:Int)=FV,(W.1:Int)=OV,((M.1%4294967296:Nat):Int)=UM,(M.1:Int)=UV,(x1:Int)=N,(x2:Int)=X2,(x5:Int)=X5,(SV:Int)=X6,(v6:Int)=V6,((q:Nat):Int)=KB at*;have C:r 141 [J6 V6,J6 1073741824] s6=some (J PV,s6):=e7;have Su:r 141 [J6 N,J6 1073741824] u1=some (J IV,u1):=SB;have SJ:r 141 [J6 X2,J6 4] u2=some (J TV,u2):=SO;have SK:r 141 [J6 X5,J6 1099511627776] u5=some (J FV,u5):=SP;have SL:r 141 [J6 X6,J6 1099511627776] u6=some (J OV,u6):=c6
  simpa[Sm,E,Sn,e3,wk,Y,Sp,F,e6,C,fe,e8,l8,d1,Ss,Su,Sz,SJ,SA,a4,a5,SK,SQ,SL,a7,a8,a9,wU,SI]using D
 ·have d1:decide (((q:Nat):Int)=1)=false:=aR (by omega);by_cases k2:q=2
  ·have d2:decide (((q:Nat):Int)=2)=true:=aK (by omega);obtain⟨u1,⟨x1,Ss,SB⟩,U⟩:=y s8 _ _ _ X 1073741824 (by omega);obtain⟨l,Q⟩:=aZ (x6 b 1073741824 p.2.1 p.2.2);rw[<-Q]at SB U;obtain⟨u3,SA,O⟩:=U.set (j:=2) (v := .int .i64 l.1) (w':={ w1 with i:=(l.1:Nat) }) (by omega) rfl;obtain⟨τ,D,gt⟩:=g u3 _ _ _ O ⟨B.1,B.2⟩ Sw
   have c:gw b=({ w1 with i:=(l.1:Nat) },l.2.2):=by
    unfold gw;simp only[<-H,<-G,<-T,<-hp,<-Q,ae k1,af k2,A,z]
   rw[c];refine⟨τ,?_,gt⟩;clear y g U O c X;unfold k7 at D;simp only[]at D ⊢;generalize qZ (if l.2.2=false/\ct { w1 with i:=(l.1:Nat) }=some b then some { w1 with i:=(l.1:Nat) } else none)=Sr,R (d+5)=r,(p.1:Int)=PV,(l.1:Int)=IV,(x1:Int)=N,(v6:Int)=V6,((q:Nat):Int)=KB at*;have C:r 141 [J6 V6,J6 1073741824] s6=some (J PV,s6):=e7;have Su:r 141 [J6 N,J6 1073741824] u1=some (J IV,u1):=SB
   simpa[Sm,E,Sn,e3,wk,Y,Sp,F,e6,C,fe,e8,l8,d1,d2,Ss,Su,SA]using D
  ·have d2:decide (((q:Nat):Int)=2)=false:=aR (by omega);by_cases k4:q=4
   ·have d4:decide (((q:Nat):Int)=4)=true:=aK (by omega);obtain⟨u1,Ss,U⟩:=X.num (d+3) S;obtain⟨M1,SD⟩:=aZ (ki b p.2.1 p.2.2);rw[<-SD]at Ss U;obtain⟨u2,Sz,r2⟩:=U.text (d+4) S (n:=M1.1);obtain⟨N,Sv⟩:=aZ (jO b M1.1 M1.2.1 M1.2.2);rw[<-Sv]at Sz r2;obtain⟨u3,SA,O⟩:=r2.set (j:=7) (v := .str N.1) (w':={ w1 with x:=N.1 }) (by omega) rfl
    have SM:N.1.length<=8000:=by
     rw[Sv];unfold jO;split
     ·simp
     ·simp;omega
    obtain⟨τ,D,gt⟩:=g u3 _ _ _ O ⟨B.1,B.2⟩ SM
    have c:gw b=({ w1 with x:=N.1 },N.2.2):=by
     unfold gw;simp only[<-H,<-G,<-T,<-hp,<-SD,<-Sv,ae k1,ae k2,af k4,A,z]
    rw[c];refine⟨τ,?_,gt⟩;clear y g U r2 O c X;unfold k7 at D;simp only[]at D ⊢;generalize qZ (if N.2.2=false/\ct { w1 with x:=N.1 }=some b then some { w1 with x:=N.1 } else none)=Sr at*;simp only[aH,Nat.reduceAdd]at Ss Sz;generalize R (d+5)=r,(p.1:Int)=PV,(M1.1:Int)=MV,(v6:Int)=V6,((q:Nat):Int)=KB at*;have C:r 141 [J6 V6,J6 1073741824] s6=some (J PV,s6):=e7
    simpa[Sm,E,Sn,e3,wk,Y,Sp,F,e6,C,fe,e8,l8,d1,d2,d4,Ss,Sz,SA]using D
   ·have d4:decide (((q:Nat):Int)=4)=false:=aR (by omega);obtain⟨τ,D,gt⟩:=g s8 _ _ _ X B Sw
    have c:gw b=(w1,p.2.2):=by
     unfold gw;simp only[<-H,<-G,<-T,<-hp,ae k1,ae k2,ae k4,A,z]
    rw[c];refine⟨τ,?_,gt⟩;clear y g c X;unfold k7 at D;simp only[]at D ⊢;generalize qZ (if p.2.2=false/\ct w1=some b then some w1 else none)=Sr,R (d+5)=r,(p.1:Int)=PV,(v6:Int)=V6,((q:Nat):Int)=KB at*;have C:r 141 [J6 V6,J6 1073741824] s6=some (J PV,s6):=e7
    simpa[Sm,E,Sn,e3,wk,Y,Sp,F,e6,C,fe,e8,l8,d1,d2,d4]using D
end
theorem Md{b:Bs}{n:Nat}(h:b.length<=n):fY b n=none:=by
 unfold fY;by_cases a:n<=b.length
 ·rw[af a];have:b[n+0]? = none:=iS (by omega);unfold mC;rw[this]
 ·rw[ae a]
theorem pU{b:Bs}{n:Nat}(h:fY b n=none):iw b n=none:=by
 unfold iw;rw[h]
theorem vH{b:Bs}{a n d:Nat}(h:fY b a=some (n,d)):iw b a=if b.length<d+4+n then none else
 if(b.drop a).take (d+4+n-a)=e5 ((b.drop (d+4)).take n)then some ((b.drop (d+4)).take n,d+4+n)else none:=by
 unfold iw;rw[h];by_cases c:b.length<d+4+n
 ·rw[af c];simp only;rw[af (by omega)]
 ·rw[ae c];simp only;rw[ae (by omega)]
theorem ia{b:Bs}{q a:Nat}{acc:List bM}(h:iw b a=none\/q=0\/∃x c,iw b a=some (x,c)/\mB x=none):jL b q a acc=(acc,a):=by
 cases q with
 |zero=>rfl
 |succ q=>
  rcases h with h | h | ⟨x,c,h,d⟩
  ·unfold jL;rw[h]
  ·omega
  ·unfold jL;rw[h];simp only[d]
theorem vC:∀l:List bM,ff l l=l.length
 | []=>rfl
 |a::r=>by unfold ff;rw[af rfl,vC r];rfl
theorem xI:∀{l m:List bM},l.length=m.length->ff l m=l.length->l=m
 | [],[],_,_=>rfl
 | [],_::_,h,_=>by simp at h
 |_::_,[],h,_=>by simp at h
 |a::r,b::t,h,k=>by
  unfold ff at k;split at k
  ·rename_i e;rw[e,xI (l:=r) (m:=t) (by simpa using h) (by simpa using k)]
  ·simp at k
section
variable {s t:St}{b:Bs}
theorem HI(d:Nat)(SA:s.wf)(hl:b.length<=7900):∃y t,R (d+7) 56 [Z (.str b)] s=some (P4 y (fV b),t)/\FE s t y (fV b).1/\((fV b).1=[]->y = .av):=by
 rw[Ns];unfold f56;have B:aV (Z (.str b))=some (J (b.length:Int)):=rfl;have wl:IntKind.u64.wrap (b.length:Int)=(b.length:Int):=wrap64 _ (by omega)
 obtain⟨j,SB,lp,z,hj,f,fz⟩:=aL (f:=j0 (R (d+6)) 8192) (λq v u=>∃(at_:Nat) (z:S) (acc:List bM),q+acc.length=2000/\v=[Z (.str b),Z z,J at_]/\FE s u z acc/\at_<=b.length/\jL b q at_ acc=fV b/\(acc=[]->z = .av))
  (λj u=>∃z,j = .exit 0 [Z z,J (fV b).2]/\FE s u z (fV b).1/\((fV b).1=[]->z = .av)) (by
  rintro q v u ⟨at_,z,acc,hq,rfl,f,ha,X,Sr⟩;have C:=f.rd.lens
  have stop:∀u',jL b q at_ acc=(acc,at_)->Gr u u'->j0 (R (d+6)) 8192 [Z (.str b),Z z,J at_] u=some (.exit 0 [Z z,J at_],u') →
   ∃j s',j0 (R (d+6)) 8192 [Z (.str b),Z z,J at_] u=some (j,s')/\(∀v,j ≠ .normal v)/\∃z,j = .exit 0 [Z z,J (fV b).2]/\FE s s' z (fV b).1/\((fV b).1=[]->z = .av):=λu' h g e=>by
   rw[h]at X;exact⟨_,u',e,(λv N=>by cases N),z,by rw[<-X],by rw[<-X];exact f.j6 g,by rw[<-X];exact Sr⟩
  have gu:=Gr.refl f.gr.wf;by_cases Sw:at_<b.length
  ·have H:(at_:Int)<(b.length:Int):=by omega
   by_cases hc:acc.length<2000
   ·have O:(acc.length:Int)<2000:=(by omega);have F:=B8 (s:=u) (bs:=b) (d+5) (by omega) (at_:=at_) (by omega);simp only[aH,Nat.reduceAdd]at F;cases N:fY b at_ with
    |none=>
     rw[N]at F;simp only[mf,af ha]at F;right;refine stop u (ia (.inl (pU N))) gu ?_;unfold j0;generalize R (d+6)=r at*;simp[B,H,C,O,F,ai,bD]
    |some p=>
     obtain⟨n,k⟩:=p;obtain⟨Sx,Sy⟩:=mT N;rw[N]at F;simp only[mf]at F;have o:=vH N;by_cases hn:b.length<n
     ·have Y:(b.length:Int)<(n:Int):=(by omega);rw[af (by omega)]at o;right;refine stop u (ia (.inl o)) gu ?_;unfold j0;generalize R (d+6)=r at*;simp[B,H,C,O,F,ai,wl,Y,bD]
     ·have Y:¬(b.length:Int)<(n:Int):=(by omega);have w1:IntKind.i64.wrap ((k:Int)+4)=((k+4:Nat):Int):=(by rw[aw _ (by omega) (by omega)];omega);have w2:IntKind.i64.wrap (n:Int)=(n:Int):=fJ _ (by omega);have w3:IntKind.i64.wrap (((k+4:Nat):Int)+(n:Int))=((k+4+n:Nat):Int):=(by rw[aw _ (by omega) (by omega)];omega);by_cases h4:b.length<k+4+n
      ·have c3:(b.length:Int)<((k+4+n:Nat):Int):=(by omega);rw[af h4]at o;right;refine stop u (ia (.inl o)) gu ?_;unfold j0;generalize((k+4+n:Nat):Int)=U,((k+4:Nat):Int)=K4,R (d+6)=r at*;simp[B,H,C,O,F,ai,wl,Y,w1,w2,w3,c3,bD]
      ·have c3:¬(b.length:Int)<((k+4+n:Nat):Int):=(by omega);rw[ae h4]at o;have pc:=iD (l:=b) (lo:=k+4) (hi:=k+4+n) rfl rfl (by omega) (by omega);rw[o3]at pc;obtain⟨x,hx⟩:=aZ ((b.drop (k+4)).take n);rw[<-hx]at pc o;have Sz:x.length<=7900:=(by rw[hx];simp;omega);obtain⟨D,e2,g1⟩:=DK (b:=x) d f.gr.wf (by omega);obtain⟨u2,I⟩:=aZ (D.push (.K true (cE bN)));have b0:u2.get D.size=some (.K true (cE bN)):=(by rw[I];exact St.ec);have g2:Gr D u2:=(by rw[I];exact Gr.push g1.wf _);have z2:u2.size=D.size+1:=(by rw[I];simp);have nw:aE D (a6 [iz,iz,iz,iz,iz,iz,.int .u32 0,.str []])=some (Z (.ptr D.size 0),u2):=by rw[I];rfl
       have Q:∀bk:er,Gr D (u2.set D.size bk):=λbk=>
        ⟨St.wf_set g2.wf (by omega) _,by simpa using g2.2.1,λc hc=>by rw[St.bO (by omega)];exact g2.2.2 c hc⟩
       cases hg:mB x with
       |none=>
        rw[hg]at e2;have st:=js (e:=bN) b0 rfl;right;refine stop (u2.set D.size (.K true (cE bN))) (ia ?_) (g1.trans (Q _)) ?_
        ·by_cases hw:(b.drop at_).take (k+4+n-at_)=e5 x
         ·rw[af hw]at o;exact .inr (.inr ⟨_,_,o,hg⟩)
         ·rw[ae hw]at o;exact .inl o
        ·unfold j0;generalize((k+4+n:Nat):Int)=U,((k+4:Nat):Int)=K4,R (d+6)=r at*;simp[B,H,C,O,F,ai,wl,Y,w1,w2,w3,c3,pc,e2,nw,st,bD]
       |some G=>
        rw[hg]at e2;obtain⟨T,Sp⟩:=rY hg;have Sn:=yZ hg;obtain⟨w,hw⟩:=aZ (u2.set D.size (.K true (cE G)));have bw:w.get D.size=some (.K true (cE G)):=(by rw[hw];exact St.dh);have st:aj 8 (Z (.ptr D.size 0)) (AE G) u2=some (tt,w):=(by rw[hw];exact js b0 rfl);have ld:ay 8 (Z (.ptr D.size 0)) w.get=some (AE G):=eA bw;have gw:Gr D w:=(by rw[hw];exact Q _);obtain⟨u5,Sm,g5⟩:=vX d gw.wf G Sn (by have:=j9 T;omega);have V:dW G=some (e5 x):=(by unfold dW;rw[T,Sp];rfl);rw[V]at Sm;simp only[DH]at Sm;have Ss:ay 8 (Z (.ptr D.size 0)) u5.get=some (AE G):=eA (g5.get bw gw.wf);have Sk:=iD (l:=b) (lo:=at_) (hi:=k+4+n) rfl rfl (by omega) (by omega);have nq:=ue (e5 x) ((b.drop at_).take (k+4+n-at_));by_cases E:(b.drop at_).take (k+4+n-at_)=e5 x
        ·rw[af E]at o;rw[aK E.symm]at nq;obtain⟨q',rfl⟩:∃q',q=q'+1:=⟨q-1,by omega⟩
         have Sj:jL b q' (k+4+n) (acc++[G])=fV b:=by
          rw[<-X]
          conv=>rhs;unfold jL
          rw[o];simp only[hg]
         obtain⟨Sl,u7,u6,Su,Sv,f7,_⟩:=FE.lit (e:=G) (f.j6 ((g1.trans gw).trans g5)) (by omega);left;refine⟨[Z (.str b),Z Sl,J ((k+4+n:Nat):Int)],u7,q',?_,rfl,k+4+n,Sl,acc++[G],by simp;omega,rfl,f7,by omega,Sj,λh=>by simp at h⟩;unfold j0;clear X Sj stop o N V E;generalize((k+4+n:Nat):Int)=U,((k+4:Nat):Int)=K4,R (d+6)=r at*;simp[B,H,C,O,F,ai,wl,Y,w1,w2,w3,c3,pc,e2,nw,st,ld,Sm,Sk,nq,Ss,Su,Sv]
        ·rw[ae E]at o;rw[aR (λe=>E e.symm)]at nq;right;refine stop u5 (ia (.inl o)) ((g1.trans gw).trans g5) ?_;unfold j0;clear X stop o N V E;generalize((k+4+n:Nat):Int)=U,((k+4:Nat):Int)=K4,R (d+6)=r at*;simp[B,H,C,O,F,ai,wl,Y,w1,w2,w3,c3,pc,e2,nw,st,ld,Sm,Sk,nq]
   ·have O:¬(acc.length:Int)<2000:=(by omega);right;refine stop u (ia (.inr (.inl (by omega)))) gu ?_;unfold j0;simp[B,H,C,O]
  ·have H:¬(at_:Int)<(b.length:Int):=by omega
   right;refine stop u (ia (.inl (pU (Md (by omega))))) gu ?_;unfold j0;simp[B,H,bD]) 8192 2000 [Z (.str b),Z .av,J 0] s ⟨0,.av,[],rfl,rfl,by exact Fr.nil 8 SA,by omega,rfl,λ_=>rfl⟩ (by omega)
 subst hj;exact⟨z,SB,by simp[lp,aD,a8],f,fz⟩
theorem HJ(d:Nat)(p:s.wf){x y:S}{l m:List bM}(h:RE s x l)(k:RE s y m)(j:l.length<=8000):R (d+3) 31 [Z x,Z y] s=some (B (decide (l=m)),s):=by
 rw[Na];unfold f31;have b:=h.lens;have c:=k.lens;have i:=DI d p h k j;have o:=BH l m;by_cases a:l.length=m.length
 ·have f:decide ((l.length:Int)=(m.length:Int))=true:=aK (by omega)
  have g:decide (ff l m=l.length)=decide (l=m):=by
   apply decide_eq_decide.2;constructor
   ·intro n;exact xI a n
   ·rintro rfl;exact vC l
  rw[g]at i;simp[b,c,f,i]
 ·have f:decide ((l.length:Int)=(m.length:Int))=false:=aR (by omega);have g:decide (l=m)=false:=aR (λe=>a (by rw[e]));rw[g];simp[b,c,f,bD]
end
theorem oB{q:gJ}{e:bM}(d:bR e=true)(a:¬(e.k=1/\e.i∈q.dV))(b:¬(e.k=2/\cH q.l e.i=false))(c:¬e.v<q.w):cg q e=0:=by
 unfold cg;rw[af d,ae a,ae b,ae c]
section
variable {s t:St}{x y a:S}
structure RH(sb u:St)(rp pp:Nat)(q:gJ)(out ev:S):Prop where
 wf:u.wf
 le:sb.size<=u.size
 old:∀c,c<sb.size->c≠pp->u.get c=sb.get c
 cX:u.get pp=some (.K true (cP q.cX))
 PT:RI u out q.l
 tN:∀c,own out=some c->sb.size<=c/\c<u.size
 Qq:Ow 1 u ev q.dV.length (An q.dV)
 tK:∀c,own ev=some c->sb.size<=c/\c<u.size
 Q5:∀c,own ev=some c->own out≠some c
theorem RH.gr{e u t:St}{f pp:Nat}{q:gJ}{b ev:S}(h:RH e u f pp q b ev)(i:pp<e.size)(g:Gr u t):RH e t f pp q b ev:=
 ⟨g.wf,bl h.le g.2.1,λc a d=>by rw[g.2.2 c (bh a h.le)];exact h.old c a d,g.get h.cX h.wf,Rd.gr h.PT (λc a=>(h.tN c a).2) g,λc a=>⟨(h.tN c a).1,bh (h.tN c a).2 g.2.1⟩,
  h.Qq.gr h.wf g,λc a=>⟨(h.tK c a).1,bh (h.tK c a).2 g.2.1⟩,h.Q5⟩
theorem Hu(d:Nat)(TN:s.wf){es:List bM}(ha:RE s a es)(SY:∀c,own a=some c->c<s.size)(hl:es.length<=8000)(hx:∀e∈es,e.x.length<=8000):∃y t,R (d+5) 57 [Z a] s=some (tA (bT j4 es) y,t)/\Gr s t ∧
 ((bT j4 es).1=0->RI t y (bT j4 es).2.l/\∀c,own y=some c->c<t.size):=by
 rw[Nt];unfold f57;obtain⟨N,S0⟩:=aZ (s.size);obtain⟨s1,SL⟩:=aZ (s.push (.K true (cP bV)));have S4:aE s (a6 [iz,iz,iz,iz,iz,iz])=some (Z (.ptr N 0),s1):=by rw[SL,S0];rfl
 have g1:Gr s s1:=by rw[SL];exact Gr.push TN _
 have r1:s1.get N=some (.K true (cP bV)):=by rw[SL,S0];exact St.ec
 obtain⟨s2,e2,g2⟩:=qY (d+3) g1.wf;have r2:=g2.get r1 g1.wf;obtain⟨pp,SZ⟩:=aZ (s2.size);obtain⟨s3,SM⟩:=aZ (s2.push (.K true (cP bV)));have S5:aE s2 (a6 [iz,iz,iz,iz,iz,iz])=some (Z (.ptr pp 0),s3):=by rw[SM,SZ];rfl
 have g3:Gr s2 s3:=by rw[SM];exact Gr.push g2.wf _
 have p3:s3.get pp=some (.K true (cP bV)):=by rw[SM,SZ];exact St.ec
 obtain⟨sb,Ss⟩:=aZ (s3.set pp (.K true (cP gM)));have Ta:aj 6 (Z (.ptr pp 0)) (AP gM) s3=some (tt,sb):=by rw[Ss];exact gB p3 rfl
 have Tk:=g3.wf.lt p3;have Tc:sb.wf:=by rw[Ss];exact St.wf_set g3.wf Tk _
 have zb:sb.size=s3.size:=by rw[Ss];simp
 have gb:Gr s sb:=by
  refine⟨Tc,by rw[zb];exact bl (g1.trans g2).2.1 g3.2.1,λc B => ?_⟩;have:=(g1.trans g2).2.1;rw[Ss,St.bO (by omega)];exact((g1.trans g2).trans g3).2.2 c B
 have TM:N<s2.size:=g2.wf.lt r2;have SP:N≠pp:=by omega
 have S8:N<sb.size:=by have:=g3.2.1;omega
 have Sy:pp<sb.size:=by omega
 have rb:sb.get N=some (.K true (cP bV)):=by rw[Ss,St.bO SP];exact g3.get r2 g2.wf
 have pb:sb.get pp=some (.K true (cP gM)):=by rw[Ss];exact St.dh
 have TQ:=ha.lens
 obtain⟨j,SR,lp,hj⟩:=aL (f:=fQ (R (d+4)) 8192)
  (λq v u=>∃(k:Nat) (z:gJ) (E ev:S),q+k=es.length/\v=[Z a,Z (.ptr N 0),Z E,Z ev,Z (.ptr pp 0),J z.v,J z.w,J (k:Int)]/\RH sb u N pp z E ev/\H8 z/\z.dV.length<=k/\bT z (es.drop k)=bT j4 es)
  (λj u=>(∃(z:gJ) (E ev:S),j = .exit 0 [Z (.ptr N 0),Z E,Z (.ptr pp 0),J z.v]/\RH sb u N pp z E ev/\bT j4 es=(0,z))\/(j = .ret (tA (bT j4 es) .av)/\(bT j4 es).1≠0/\Gr s u)) (by
  rintro q v u ⟨k,z,E,ev,hk,rfl,H,SD,TG,Sj⟩;by_cases SV:k<es.length
  ·have B:es[k]? = some es[k]:=aU SV;obtain⟨e,he⟩:=aZ (es[k]);rw[<-he]at B;have Tn:=hx e (bS B);have SU:es.drop k=e::es.drop (k+1):=by rw[cU SV,he]
   have SC:RE u a es:=ha.keep λc B=>by
    have h1:=SY c B;rw[H.old c (by have:=gb.2.1;omega) (by omega)];exact gb.2.2 c h1
   have Q:=SC.lens;obtain⟨p,ix,ld⟩:=SC.QC (n:=(k:Int)) rfl B;have Sp:(k:Int)<(es.length:Int):=by omega
   have w1:IntKind.i64.wrap ((k:Int)+1)=((k+1:Nat):Int):=by rw[aw _ (by omega) (by omega)];omega
   obtain⟨n,hn⟩:=aZ (u.size);obtain⟨u1,SN⟩:=aZ (u.push (.K true (cE bN)));have X:aE u (a6 [iz,iz,iz,iz,iz,iz,.int .u32 0,.str []])=some (Z (.ptr n 0),u1):=by rw[SN,hn];rfl
   have b1:u1.get n=some (.K true (cE bN)):=by rw[SN,hn];exact St.ec
   have SB:Gr u u1:=by rw[SN];exact Gr.push H.wf _
   obtain⟨u2,SO⟩:=aZ (u1.set n (.K true (cE e)));have Y:aj 8 (Z (.ptr n 0)) (AE e) u1=some (tt,u2):=by rw[SO];exact js b1 rfl
   have SG:Gr u u2:=by
    rw[SO];exact⟨St.wf_set SB.wf (SB.wf.lt b1) _,by simpa using SB.2.1,λc B=>by rw[St.bO (by omega)];exact SB.2.2 c B⟩
   have b2:u2.get n=some (.K true (cE e)):=by rw[SO];exact St.dh
   have V:aa (Z (.ptr n 2)) u2.get=some (J e.i):=ag b2 rfl;have H2:=H.gr Sy SG;have SK:z.l.length<=8000:=by have:=SD.len;omega
   have ef:=Ht (d+3) H2.PT SK e.i;rw[find_eq z.l e.i 0 SD.up]at ef;have l2:ay 8 (Z (.ptr n 0)) u2.get=some (AE e):=eA b2;obtain⟨u3,em,SS⟩:=x5 d SG.wf e Tn;have G:=H2.gr Sy SS;have b3:u3.get n=some (.K true (cE e)):=SS.get b2 SG.wf;have n3:=G.wf.lt b3;have Su:aa (Z (.ptr n 0)) u3.get=some (J e.k):=ag b3 rfl;have v3:aa (Z (.ptr n 1)) u3.get=some (J e.v):=ag b3 rfl;have i3:aa (Z (.ptr n 2)) u3.get=some (J e.i):=ag b3 rfl;have x3:aa (Z (.ptr n 7)) u3.get=some (Z (.str e.x)):=ag b3 rfl;have TI:(An z.dV).length=z.dV.length:=by simp
   have eh:=LI (d+3) (s:=u3) (x:=ev) (is:=z.dV) G.Qq.rd (by omega) e.i;rw[SU]at Sj;have F:(if cg z e=0 then bT (ed z e) (es.drop (k+1))else(cg z e,z))=bT j4 es:=Sj;have Tp:=y5 z.l e.i;simp only[aH,Nat.reduceAdd,a7]at ef em eh;have Tx:u3.get N=some (.K true (cP bV)):=by rw[G.old N S8 SP];exact rb
   have sr:aj 6 (Z (.ptr N 0)) (AP bV) u3=some (tt,u3.set N (.K true (cP bV))):=gB Tx rfl;obtain⟨u4,Sk⟩:=aZ (u3.set N (.K true (cP bV)));rw[<-Sk]at sr;have lr:ay 6 (Z (.ptr N 0)) u4.get=some (AP bV):=k3 (by rw[Sk];exact St.dh)
   have Tg:Gr s u4:=by
    rw[Sk];have TP:=gb.2.1;have Th:=G.le;exact⟨St.wf_set G.wf (by omega) _,by simp only[St.size_set];omega,λc B=>by rw[St.bO (by omega),G.old c (by omega) (by omega)];exact gb.2.2 c B⟩
   have fail:∀C:Int,cg z e=C->C≠0->fQ (R (d+4)) 8192 [Z a,Z (.ptr N 0),Z E,Z ev,Z (.ptr pp 0),J z.v,J z.w,J (k:Int)] u=some (.ret (.c6 [.s .av,.agg (cP bV),.s (iz),.s (.int .i64 C)]),u4) →
    ∃j s',fQ (R (d+4)) 8192 [Z a,Z (.ptr N 0),Z E,Z ev,Z (.ptr pp 0),J z.v,J z.w,J (k:Int)] u=some (j,s')/\(∀v,j ≠ .normal v) ∧
     ((∃(z:gJ) (E ev:S),j = .exit 0 [Z (.ptr N 0),Z E,Z (.ptr pp 0),J z.v]/\RH sb s' N pp z E ev/\bT j4 es=(0,z))\/(j = .ret (tA (bT j4 es) .av)/\(bT j4 es).1≠0/\Gr s s')):=λC hC SH Sw=>by
    rw[hC,ae SH]at F;refine⟨_,_,Sw,(λv hv=>by cases hv),.inr ⟨?_,by rw[<-F];exact SH,Tg⟩⟩;rw[<-F];have:tA (C,z) .av = .c6 [.s .av,.agg (cP bV),.s (iz),.s (.int .i64 C)]:=ae SH;rw[this]
   have T:∀(U Sm:S) (u':St),cg z e=0->RH sb u' N pp (ed z e) U Sm->fQ (R (d+4)) 8192 [Z a,Z (.ptr N 0),Z E,Z ev,Z (.ptr pp 0),J z.v,J z.w,J (k:Int)] u=some (.normal [Z a,Z (.ptr N 0),Z U,Z Sm,Z (.ptr pp 0),J (ed z e).v,J (ed z e).w,J ((k+1:Nat):Int)],u') →
    ∃v' s' k',fQ (R (d+4)) 8192 [Z a,Z (.ptr N 0),Z E,Z ev,Z (.ptr pp 0),J z.v,J z.w,J (k:Int)] u=some (.normal v',s')/\q=k'+1 ∧
     ∃(k:Nat) (z:gJ) (E ev:S),k'+k=es.length/\v'=[Z a,Z (.ptr N 0),Z E,Z ev,Z (.ptr pp 0),J z.v,J z.w,J (k:Int)]/\RH sb s' N pp z E ev/\H8 z/\z.dV.length<=k/\bT z (es.drop k)=bT j4 es:=λU Sm u' hC hH Sw=>by
    rw[hC,af rfl]at F;exact⟨_,u',q-1,Sw,by omega,k+1,ed z e,U,Sm,by omega,rfl,hH,E4 SD hC,by have:=xO (q:=z) (e:=e);omega,F⟩
   clear Sj SU he;by_cases Sr:bR e=true
   ·rw[Sr]at em;obtain⟨v0,v1,k0,k1,q1,q2,q3,q4⟩:=eN Sr;by_cases hv:e.v<z.w
    ·-- an TL Tb
     by_cases h7:e.k=1/\e.i∈z.dV
     ·right;refine fail 7 (by unfold cg;rw[af Sr,af h7]) (by decide) ?_;rw[aK h7.2]at eh;have D:=h7.1;clear fail T F;unfold fQ;generalize R (d+4)=r,((k+1:Nat):Int)=K1,(if cH z.l e.i=true then((gv z.l e.i:Nat):Int)else -1)=AT at*;simp[Q,Sp,ix,ld,X,Y,bD,V,ef,l2,em,Su,D,i3,eh,qf,sr,lr,rC,rT,aD,a8]
     ·by_cases h9:e.k=2/\cH z.l e.i=false
      ·right;refine fail 9 (by unfold cg;rw[af Sr,ae h7,af h9]) (by decide) ?_;have D:=h9.1;rw[h9.2,ae (by decide)]at ef;clear fail T F;unfold fQ;generalize R (d+4)=r,((k+1:Nat):Int)=K1 at*;simp[Q,Sp,ix,ld,X,Y,bD,V,ef,l2,em,Su,D,i3,eh,qf,sr,lr,rC,rT,aD,a8]
      ·right;refine fail 12 (by unfold cg;rw[af Sr,ae h7,ae h9,af hv]) (by decide) ?_;clear fail T F;unfold fQ;rcases (by omega:e.k=1\/e.k=2\/e.k=3\/e.k=4)with D | D | D | D
       ·have Tj:e.i∉z.dV:=λh=>h7 ⟨D,h⟩
        rw[aR Tj]at eh;generalize R (d+4)=r,((k+1:Nat):Int)=K1,(if cH z.l e.i=true then((gv z.l e.i:Nat):Int)else -1)=AT at*;simp[Q,Sp,ix,ld,X,Y,bD,V,ef,l2,em,Su,D,i3,eh,v3,hv,qf,sr,lr,rC,rT,aD,a8]
       ·have Sx:cH z.l e.i=true:=by
         cases ht:cH z.l e.i with
         |true=>rfl
         |false=>exact(h9 ⟨D,ht⟩).elim
        rw[Sx,af rfl]at ef;have SI:¬((gv z.l e.i:Nat):Int)<0:=(by omega);generalize R (d+4)=r,((k+1:Nat):Int)=K1,((gv z.l e.i:Nat):Int)=AT at*;simp[Q,Sp,ix,ld,X,Y,bD,V,ef,l2,em,Su,D,i3,eh,SI,v3,hv,qf,sr,lr,rC,rT,aD,a8]
       ·generalize R (d+4)=r at*;generalize((k+1:Nat):Int)=K1,(if cH z.l e.i=true then((gv z.l e.i:Nat):Int)else -1)=AT at*;simp[Q,Sp,ix,ld,X,Y,bD,V,ef,l2,em,Su,D,i3,eh,v3,hv,qf,sr,lr,rC,rT,aD,a8]
       ·generalize R (d+4)=r at*;generalize((k+1:Nat):Int)=K1,(if cH z.l e.i=true then((gv z.l e.i:Nat):Int)else -1)=AT at*;simp[Q,Sp,ix,ld,X,Y,bD,V,ef,l2,em,Su,D,i3,eh,v3,hv,qf,sr,lr,rC,rT,aD,a8]
    ·rcases (by omega:e.k=1\/e.k=2\/e.k=3\/e.k=4)with D | D | D | D
     ·by_cases hi:e.i∈z.dV
      ·right;refine fail 7 (by unfold cg;rw[af Sr,af ⟨D,hi⟩]) (by decide) ?_;rw[aK hi]at eh;clear fail T F;unfold fQ;generalize R (d+4)=r,((k+1:Nat):Int)=K1,(if cH z.l e.i=true then((gv z.l e.i:Nat):Int)else -1)=AT at*;simp[Q,Sp,ix,ld,X,Y,bD,V,ef,l2,em,Su,D,i3,eh,qf,sr,lr,rC,rT,aD,a8]
      ·-- a Sz comes
       left;have h0:cg z e=0:=oB Sr (λh=>hi h.2) (λh=>by omega) hv;have O:ed z e=⟨r5 z.l (tM e),z.dV++[e.i],z.cX,z.v,e.v⟩:=(by unfold ed;rw[af D]);rw[aR hi]at eh;have L:=Fr.lit 1 G.wf (n:=1) (vs:=[S.int .i64 e.i]) rfl;obtain⟨u5,S1⟩:=aZ (u3.push (.K true [S.int .i64 e.i]));rw[<-S1]at L;have n5:aE u3 (aN 1 (aA [iz] [(0,1,J e.i)]))=some (Z (.sl u3.size 0 1 (.known 1)),u5):=(by rw[S1];rfl);have H5:=G.gr Sy L.gr;obtain⟨Sm,u6,Td,SQ,z6,S7,S6,S3⟩:=H5.Qq.append (by_:=8) L.gr.wf (by omega) L.rd.src (by simp) (by omega);have TO:=L.gr.2.1;have Ty:∀c,own ev=some c->c<u3.size:=λc B=>(G.tK c B).2
       have SA:∀c,c<u3.size->own ev≠some c->u6.get c=u3.get c:=λc B Sn=>by rw[S6 c (by omega) Sn];exact L.gr.2.2 c B
       have Te:own ev≠some n:=λB=>by have:=(H.tK n B).2;omega
       have Tf:own ev≠some pp:=λB=>by have:=(H.tK pp B).1;omega
       have b6:u6.get n=some (.K true (cE e)):=(by rw[SA n n3 Te];exact b3);have S2:RI u6 E z.l:=Rd.keep G.PT λc B=>SA c (G.tN c B).2 (λh=>H.Q5 c h B)
       have Tq:∀c,own E=some c->c<u6.size:=λc B=>by have:=(G.tN c B).2;omega
       obtain⟨U,u7,e7,f7⟩:=Cb (d+3) SQ S2 Tq SK (tM e);simp only[aH,Nat.reduceAdd]at e7;have f2:aa (Z (.ptr n 2)) u6.get=some (J e.i):=ag b6 rfl;have f3:aa (Z (.ptr n 3)) u6.get=some (J e.t):=ag b6 rfl;have f4:aa (Z (.ptr n 4)) u6.get=some (J e.f):=ag b6 rfl;have f5:aa (Z (.ptr n 5)) u6.get=some (J e.o):=ag b6 rfl;have f6:aa (Z (.ptr n 6)) u6.get=some (I .u32 e.u):=ag b6 rfl;have TC:aO (aA [iz,iz,iz,iz,.int .u32 0] [(0,1,J e.i),(1,1,J e.t),(2,1,J e.f),(3,1,J e.o),(4,1,I .u32 e.u)])=some (AI (tM e)):=rfl;have SW:=G.le
       have SF:∀c,own Sm=some c->sb.size<=c/\c<u6.size:=λc B=>by
        have SX:=S7.lt SQ B;rcases S3 with h | h | ⟨c',h,TE⟩
        ·rw[h]at B;cases B
        ·rw[h]at B;exact⟨(G.tK c B).1,SX⟩
        ·rw[h]at B;cases B;exact⟨by omega,SX⟩
       refine T U Sm u7 h0 ?_ ?_
       ·rw[O];refine⟨f7.gr.wf,by have:=f7.gr.2.1;omega,λc B Sn => ?_,?_,f7.rd,λc B=>⟨by have:=(f7.new c B).1;omega,(f7.new c B).2⟩,?_,λc B=>⟨(SF c B).1,bh (SF c B).2 f7.gr.2.1⟩,λc B SJ => ?_⟩
        ·rw[f7.gr.2.2 c (by omega),SA c (by omega) (λh=>by have:=(G.tK c h).1;omega)];exact G.old c B Sn
        ·rw[f7.gr.2.2 pp (by omega),SA pp (by omega) Tf];exact G.cX
        ·have h1:(An (z.dV++[e.i]))=An z.dV++[S.int .i64 e.i]:=(by simp[An]);show Ow 1 u7 Sm (z.dV++[e.i]).length (An (z.dV++[e.i]))
         rw[h1,aI];exact S7.gr SQ f7.gr
        ·have:=(SF c B).2;have:=(f7.new c SJ).1;omega
       ·rw[O];clear fail T F O h0;unfold fQ;generalize R (d+4)=r,((k+1:Nat):Int)=K1,u3.size=z3,(if cH z.l e.i=true then((gv z.l e.i:Nat):Int)else -1)=AT at*;simp[Q,Sp,ix,ld,X,Y,bD,V,ef,l2,em,Su,D,i3,eh,v3,hv,n5,Td,f2,f3,f4,f5,f6,TC,e7,w1]
     ·by_cases h9:cH z.l e.i=false
      ·right;refine fail 9 (by unfold cg;rw[af Sr,ae (λh=>by omega),af ⟨D,h9⟩]) (by decide) ?_;rw[h9,ae (by decide)]at ef;clear fail T F;unfold fQ;generalize R (d+4)=r,((k+1:Nat):Int)=K1 at*;simp[Q,Sp,ix,ld,X,Y,bD,V,ef,l2,em,Su,D,i3,eh,qf,sr,lr,rC,rT,aD,a8]
      ·-- a Sz goes
       left
       have Sx:cH z.l e.i=true:=by
        cases ht:cH z.l e.i with
        |true=>rfl
        |false=>exact(h9 ht).elim
       have h0:cg z e=0:=oB Sr (λh=>by omega) (λh=>by rw[Sx]at h;exact absurd h.2 (by decide)) hv;have O:ed z e=⟨yM z.l e.i,z.dV,z.cX,z.v,e.v⟩:=(by unfold ed;rw[ae (by omega),af D]);rw[Sx,af rfl]at ef;have SI:¬((gv z.l e.i:Nat):Int)<0:=(by omega);have TK:=KJ SD.up Sx;have w2:IntKind.i64.wrap (((gv z.l e.i:Nat):Int)+1)=((gv z.l e.i+1:Nat):Int):=(by rw[aw _ (by omega) (by omega)];omega);obtain⟨u5,y1,y,u6,n5,Tu,Td,f6,y2,Tv,Tt,Tw⟩:=L4 G.wf G.PT (λc B=>(G.tN c B).2) SK Tp (show gv z.l e.i+1<=z.l.length by omega)
       have o2:∀c,own y2=some c->c<u3.size:=λc B=>by
        rcases Tt with h | h
        ·rw[h]at B;cases B
        ·rw[h]at B;exact(G.tN c B).2
       have TF:(z.l.drop (gv z.l e.i+1)).length=z.l.length-(gv z.l e.i+1):=(by simp);have TJ:(z.l.take (gv z.l e.i)).length=gv z.l e.i:=(by rw[bb];omega);obtain⟨U,u7,TB,f7,_⟩:=f6.append (by_:=40) (by omega) (Rd.gr Tw o2 f6.gr).src (dn (e:=5) eY _) (by omega)
       have Sv:FI u3 u7 U (yM z.l e.i):=by
        have h1:cells cI (yM z.l e.i)=cells cI (z.l.take (gv z.l e.i))++cells cI (z.l.drop (gv z.l e.i+1)):=(by simp[yM,cells]);have h2:(yM z.l e.i).length=(z.l.take (gv z.l e.i)).length+(z.l.drop (gv z.l e.i+1)).length:=(by simp[yM]);unfold FI;rw[h1,h2];exact f7
       have H7:=G.gr Sy Sv.gr;have SW:=G.le;refine T U ev u7 h0 ?_ ?_
       ·rw[O];refine⟨H7.wf,H7.le,H7.old,H7.cX,Sv.rd,λc B=>⟨by have:=(Sv.new c B).1;omega,(Sv.new c B).2⟩,H7.Qq,H7.tK,λc B SJ => ?_⟩;have:=(G.tK c B).2;have:=(Sv.new c SJ).1;omega
       ·rw[O];clear fail T F O h0;unfold fQ;generalize R (d+4)=r,((k+1:Nat):Int)=K1,((gv z.l e.i+1:Nat):Int)=TA,((gv z.l e.i:Nat):Int)=AT,u3.size=z3 at*;simp[Q,Sp,ix,ld,X,Y,bD,V,ef,l2,em,Su,D,i3,eh,SI,v3,hv,n5,Tu,Td,w2,Tv,TB,w1]
     ·-- a Tb
      left;have h0:cg z e=0:=oB Sr (λh=>by omega) (λh=>by omega) hv;have O:ed z e=⟨z.l,z.dV,z.cX,e.v,e.v⟩:=(by unfold ed;rw[ae (by omega),ae (by omega),af D]);refine T E ev u3 h0 ?_ ?_
      ·rw[O];exact⟨G.wf,G.le,G.old,G.cX,G.PT,G.tN,G.Qq,G.tK,G.Q5⟩
      ·rw[O];clear fail T F O h0;unfold fQ;generalize R (d+4)=r,((k+1:Nat):Int)=K1,(if cH z.l e.i=true then((gv z.l e.i:Nat):Int)else -1)=AT at*;simp[Q,Sp,ix,ld,X,Y,bD,V,ef,l2,em,Su,D,i3,eh,v3,hv,w1]
     ·-- a Tz
      left;have h0:cg z e=0:=oB Sr (λh=>by omega) (λh=>by omega) hv;have O:ed z e=⟨z.l,z.dV,(e3 e.x).1,z.v,e.v⟩:=(by unfold ed;rw[ae (by omega),ae (by omega),ae (by omega)]);obtain⟨u5,e5,g5⟩:=v7 (d+1) G.wf (l:=e.x) (by omega);rw[vZ]at e5;have H5:=G.gr Sy g5;obtain⟨pr,Tm⟩:=aZ ((e3 e.x).1);simp only[aH,Nat.reduceAdd,Hr]at e5;rw[<-Tm]at e5 O;have sp:aj 6 (Z (.ptr pp 0)) (AP pr) u5=some (tt,u5.set pp (.K true (cP pr))):=gB H5.cX rfl;obtain⟨u6,Sl⟩:=aZ (u5.set pp (.K true (cP pr)));rw[<-Sl]at sp;have Tl:=H5.wf.lt H5.cX;refine T E ev u6 h0 ?_ ?_
      ·rw[O]
       refine⟨by rw[Sl];exact St.wf_set H5.wf Tl _,by rw[Sl];simpa using H5.le,λc B Sn=>by rw[Sl,St.bO Sn];exact H5.old c B Sn,by rw[Sl];exact St.dh,
        Rd.keep H5.PT λc B=>by rw[Sl];exact St.bO (by have:=(H5.tN c B).1;omega),λc B=>by rw[Sl];exact H5.tN c B,H5.Qq.keep λc B=>by rw[Sl];exact St.bO (by have:=(H5.tK c B).1;omega),λc B=>by rw[Sl];exact H5.tK c B,H5.Q5⟩
      ·rw[O];clear fail T F O h0;unfold fQ;generalize R (d+4)=r,((k+1:Nat):Int)=K1,(if cH z.l e.i=true then((gv z.l e.i:Nat):Int)else -1)=AT at*;simp[Q,Sp,ix,ld,X,Y,bD,V,ef,l2,em,Su,D,i3,eh,v3,hv,x3,e5,ai,sp,w1]
   ·right
    have Ti:bR e=false:=by cases h:bR e with
     |true=>exact(Sr h).elim
     |false=>rfl
    rw[Ti]at em;refine fail 1 (by unfold cg;rw[ae Sr]) (by decide) ?_;clear fail T F;unfold fQ;generalize R (d+4)=r,((k+1:Nat):Int)=K1,(if cH z.l e.i=true then((gv z.l e.i:Nat):Int)else -1)=AT at*;simp[Q,Sp,ix,ld,X,Y,bD,V,ef,l2,em,qf,sr,lr,rC,rT,aD,a8]
  ·right
   have SC:RE u a es:=ha.keep λc B=>by
    have h1:=SY c B;rw[H.old c (by have:=gb.2.1;omega) (by omega)];exact gb.2.2 c h1
   have Q:=SC.lens;have TH:k=es.length:=by omega
   have Sp:¬(k:Int)<(es.length:Int):=by omega
   rw[ja (by omega)]at Sj;refine⟨.exit 0 [Z (.ptr N 0),Z E,Z (.ptr pp 0),J z.v],u,?_,(λv hv=>by cases hv),.inl ⟨z,E,ev,rfl,H,Sj.symm⟩⟩;unfold fQ;simp[Q,Sp]) 8192 es.length [Z a,Z (.ptr N 0),Z .av,Z .av,Z (.ptr pp 0),J 0,J 0,J 0] sb
  ⟨0,j4,.av,.av,by omega,rfl,⟨Tc,au _,λ_ _ _=>rfl,pb,Rd.nil 5 sb,(λc B=>by cases B),Ow.nil 1 sb,(λc B=>by cases B),λc B=>by cases B⟩,yY,au _,by rw[ek]⟩ (by omega)
 simp only[aH,Nat.reduceAdd]at e2;rcases hj with ⟨z,E,ev,rfl,H,Sj⟩ | ⟨rfl,Sn,g⟩
 ·have Ts:ay 6 (Z (.ptr pp 0)) SR.get=some (AP z.cX):=k3 H.cX;have S9:SR.get N=some (.K true (cP bV)):=by rw[H.old N S8 SP];exact rb
  have sr:aj 6 (Z (.ptr N 0)) (AP z.cX) SR=some (tt,SR.set N (.K true (cP z.cX))):=gB S9 rfl;obtain⟨u4,Sk⟩:=aZ (SR.set N (.K true (cP z.cX)));rw[<-Sk]at sr;have lr:ay 6 (Z (.ptr N 0)) u4.get=some (AP z.cX):=k3 (by rw[Sk];exact St.dh);have To:=H.wf.lt S9;have Th:=H.le;have TD:=gb.2.1;refine⟨E,u4,?_,?_,λ_ => ?_⟩
  ·rw[Sj];have SE:tA ((0:Int),z) E = .c6 [.s E,.agg (cP z.cX),.s (.int .i64 z.v),.s (iz)]:=rfl;rw[SE];clear Sj SE;generalize R (d+4)=r at*;simp[S4,e2,S5,Ta,bD,lp,Ts,sr,lr,rC,rT,aD,a8]
  ·rw[Sk];exact⟨St.wf_set H.wf To _,by simp only[St.size_set];omega,λc B=>by rw[St.bO (by omega),H.old c (by omega) (by omega)];exact gb.2.2 c B⟩
  ·rw[Sj];refine⟨Rd.keep H.PT λc B=>by rw[Sk];exact St.bO (by have:=(H.tN c B).1;omega),λc B=>by rw[Sk];exact(H.tN c B).2⟩
 ·refine⟨.av,SR,?_,g,λh=>(Sn h).elim⟩;generalize tA (bT j4 es) .av=RF,R (d+4)=r at*;simp[S4,e2,S5,Ta,bD,lp]
end
section
variable {s t:St}{x y a:S}
def DG(r:Int×gJ):List eG:=if r.1=0 then r.2.l else []
def og(r:Int×gJ):kF:=if r.1=0 then r.2.cX else bV
def OO(r:Int×gJ):Int:=if r.1=0 then r.2.v else 0
abbrev P5(r:Int×gJ)(y:S):T := .c6 [.s y,.agg (cP (og r)),.s (.int .i64 (OO r)),.s (.int .i64 r.1)]
theorem ON{r:Int×gJ}{y:S}{t:St}(h:r.1=0->RI t y r.2.l/\∀c,own y=some c->c<t.size):∃b,tA r y=P5 r b/\RI t b (DG r)/\∀c,own b=some c->c<t.size:=by
 unfold tA P5 DG og OO;by_cases a:r.1=0
 ·refine⟨y,?_,?_⟩
  ·rw[af a,af a,af a,a]
  ·rw[af a];exact h a
 ·refine⟨.av,?_,?_,λc d=>by cases d⟩
  ·rw[ae a,ae a,ae a]
  ·rw[ae a];exact Rd.nil 5 t
theorem pX(d:Nat)(n:s.wf){es:List bM}(k:RE s a es)(b:∀c,own a=some c->c<s.size)(l:es.length<=8000)(m:∀e∈es,e.x.length<=8000):∃y t,R (d+5) 57 [Z a] s=some (P5 (bT j4 es) y,t)/\Gr s t ∧
 RI t y (DG (bT j4 es))/\∀c,own y=some c->c<t.size:=by
 obtain⟨y,t,e,g,f⟩:=Hu d n k b l m;obtain⟨o,h,i,j⟩:=ON (y:=y) (t:=t) f;rw[h]at e;exact⟨o,t,e,g,i,j⟩
theorem Rt(a b:kF):yt (.a 6 [(0,.i),(1,.i),(2,.i),(3,.i),(4,.i),(5,.i)]) (AP a) (AP b)=some (decide (a=b)):=by
 obtain⟨c,d,e,f,g,h⟩:=a;obtain⟨j,k,l,m,n,o⟩:=b;show some (decide (c=j)&&(decide (d=k)&&(decide (e=l)&&(decide (f=m)&&(decide (g=n)&&(decide (h=o)&&true))))))=some (decide (kF.mk c d e f g h=kF.mk j k l m n o))
 simp only[kF.mk.injEq,np,p6]
theorem RM(a b:kF):xN (.a 6 [(0,.i),(1,.i),(2,.i),(3,.i),(4,.i),(5,.i)]) (AP a) (AP b)=some (B (!decide (a=b))):=by simp only[xN,Rt]
end
theorem vS{bs:Bs}:∀(f at_:Nat) (acc:List bM),bs.take at_=bj acc->at_<=bs.length->(∀e∈acc,bR e=true/\nI e) →
 bs.take (jL bs f at_ acc).2=bj (jL bs f at_ acc).1/\(jL bs f at_ acc).2<=bs.length/\(∀e∈(jL bs f at_ acc).1,bR e=true/\nI e)/\(jL bs f at_ acc).1.length<=acc.length+f
 | 0,at_,acc,h,q,j=>⟨h,q,j,au _⟩
 |f+1,at_,acc,h,q,j=>by
  rw[jL];cases g:iw bs at_ with
  |none=>exact⟨h,q,j,by simp⟩
  |some p=>
   obtain⟨x,w⟩:=p;dsimp only;cases y:mB x with
   |none=>exact⟨h,q,j,by simp⟩
   |some e=>
    dsimp only;obtain⟨t,H⟩:=rY y
    have o:bs.take w=bj (acc++[e])/\w<=bs.length:=by
     cases u:fY bs at_ with
     |none=>rw[pU u]at g;cases g
     |some r=>
      obtain⟨n,k⟩:=r;rw[vH u]at g;have G:=mT u;split at g
      ·cases g
      ·rename_i F;split at g
       ·rename_i z
        injection g with g
        injection g with C D
        subst D;rw[C,H]at z;refine⟨?_,by omega⟩
        have E:bs.take (k+4+n)=bs.take at_++(bs.drop at_).take (k+4+n-at_):=by
         rw[<-zO,show at_+(k+4+n-at_)=k+4+n by omega]
        rw[nS,E,h,z];simp[bj]
       ·cases g
    obtain⟨a,b,c,d⟩:=vS f w (acc++[e]) o.1 o.2 λB he=>by
     rcases dP.1 he with he | he
     ·exact j B he
     ·rw[df]at he;rw[he];exact⟨t,yZ y⟩
    refine⟨a,b,c,?_⟩;rw[aI,iV]at d;omega
theorem vT{bs:Bs}{es:List bM}{N:Nat}(h:fV bs=(es,N)):bs.take N=bj es/\N<=bs.length/\(∀e∈es,bR e=true/\nI e)/\es.length<=2000:=by
 have:=vS (bs:=bs) 2000 0 [] (by simp[bj]) (cc _) (λe a=>by cases a);unfold fV at h;rw[h]at this
 simpa using this
section
variable {s t u:St}{x y z:S}{e n p P i k:Nat}{vs:List S}{room:Int}{fs:List wB}{nm b other:Bs}{f:wB}{ik es:List bM}{q:gJ}{ls:List eG}{v0 v1:T}
theorem Rd.QV{e:Nat}{xs:List S}(h:Rd e s x n xs)(O:n=0->x = .av)(E:k<=n) :
 ∃y,aB e (Z x) none (some (J k)) (some (J k))=some (Z y)/\Rd e s y k (xs.take (k*e))/\(own y=none\/own y=own x):=by
 have N:=h.len;have hmul:k*e<=n*e:=dx _ E;have t:(xs.take (k*e)).length=k*e:=by rw[bb];omega
 have q:=h.cap
 have bd:∀c,k<=c->mi (J k) c=some k:=λc B=>by
  have I:¬(k:Int)<0:=by omega
  simp[mi,B]
 have r:∀l c,k<=c->dr l c none (some (J k)) (some (J k))=some (0,k,k):=λl c B=>by
  unfold dr;simp only[bd c B,bd k (au _)]
 rcases h.rd with ⟨H,I⟩ | ⟨c,o,cap,w,rows,rfl,F,R,G⟩
 ·obtain rfl:=O H;have d:k=0:=by omega
  subst d;exact⟨.av,by simp only[aB,r 0 0 (au _)],⟨t,.inl ⟨rfl,.inl rfl⟩,trivial⟩,.inl rfl⟩
 ·have C:(rows.drop o).take (k*e)=xs.take (k*e):=by rw[<-G,gm,gp hmul]
  have j:∀z,(k=0\/z=o)->Rd e s (.sl c z k (.known k)) k (xs.take (k*e)):=λz Q=>by
   rcases Q with d | rfl
   ·subst d;exact⟨t,.inl ⟨rfl,.inr (.inr ⟨c,z,_,rfl⟩)⟩,au _⟩
   ·exact⟨t,.inr ⟨c,z,_,w,rows,rfl,F,by omega,C⟩,au _⟩
  cases cap with
  |known m=>
   have T:n<=m:=q;have u:=r n m (by omega);by_cases d:k=0
   ·refine⟨.sl c o (k-0) (.known (k-0)),?_,j o (.inr rfl),.inr rfl⟩;simp only[aB,u,af d]
   ·refine⟨.sl c (o+0*e) (k-0) (.known (k-0)),?_,j _ (.inr (by omega)),.inr rfl⟩;simp only[aB,u,ae d]
  |grown g=>
   have D:g=e:=q;have u:=r n n E;by_cases d:k=0
   ·refine⟨.sl c o (k-0) (.known (k-0)),?_,j o (.inr rfl),.inr rfl⟩;simp only[aB,u,af D,af d]
   ·refine⟨.sl c (o+0*e) (k-0) (.known (k-0)),?_,j _ (.inr (by omega)),.inr rfl⟩;simp only[aB,u,af D,ae d]
theorem LN(d:Nat)(Su:s.wf)(h:RE s y ik)(Q:∀c,own y=some c->c<s.size)(hw:∀e∈ik,bR e=true/\nI e)(hl:ik.length<=2000) :
 ∃t,loops (rP (R (d+5)) 8192) 8192 [v0,v1,Z y,J 0] s=some (.exit 0 [v0,v1,Z y,J (l4 j4 ik:Nat)],t)/\Gr s t:=by
 obtain⟨N,hN⟩:=aZ (l4 j4 ik);rw[<-hN]
 obtain⟨j,t,lp,rfl,g⟩:=aL (f:=rP (R (d+5)) 8192)
  (λf v u=>∃(k:Nat) (F:gJ),f+k=ik.length/\v=[v0,v1,Z y,J k]/\Gr s u/\bT j4 (ik.take k)=(0,F)/\k+l4 F (ik.drop k)=N)
  (λj u=>j = .exit 0 [v0,v1,Z y,J (N:Nat)]/\Gr s u) (by
  rintro f v u ⟨k,F,hk,rfl,g,H,o⟩;have hu:=h.gr Q g;have Sn:=hu.lens;by_cases O:k<ik.length
  ·have q:ik[k]? = some ik[k]:=aU O;obtain⟨e,he⟩:=aZ (ik[k]);rw[<-he]at q;have Sl:ik.drop k=e::ik.drop (k+1):=by rw[cU O,he]
   rw[Sl,l4]at o;have S:ik.take (k+1)=ik.take k++[e]:=by rw[cM,q];rfl
   have Sk:(k:Int)<(ik.length:Int):=by omega
   have w1:IntKind.i64.wrap ((k:Int)+1)=((k+1:Nat):Int):=by rw[aw _ (by omega) (by omega)];omega
   obtain⟨y1,p1,X,Sp⟩:=Rd.upto hu (hi:=k+1) (by omega);rw[fp mq]at X;have Sm:(ik.take (k+1)).length=k+1:=by rw[bb];omega
   have Y:RE u y1 (ik.take (k+1)):=by unfold RE;rw[Sm];exact X
   have Ss:∀c,own y1=some c->c<u.size:=λc q=>by
    have:=g.2.1;rcases Sp with e | e
    ·rw[e]at q;cases q
    ·rw[e]at q;have:=Q c q;omega
   obtain⟨z1,B,e1,g1,_⟩:=pX d g.wf Y Ss (by omega) λe he=>by have:=j9 (hw e (nc he)).1;omega
   have n:(bT j4 (ik.take (k+1))).1=cg F e:=by
    rw[S,lT,H];simp only[af];by_cases z:cg F e=0
    ·simp[bT,z]
    ·simp[bT,z]
   obtain⟨u2,E⟩:=aZ (B.push (.K true (cP bV)));have U:aE B (a6 [iz,iz,iz,iz,iz,iz])=some (Z (.ptr B.size 0),u2):=by rw[E];rfl
   have g2:Gr B u2:=by rw[E];exact Gr.push g1.wf _
   have b2:u2.get B.size=some (.K true (cP bV)):=by rw[E];exact St.ec
   obtain⟨G,C⟩:=aZ (bT j4 (ik.take (k+1)));rw[<-C]at e1 n;obtain⟨u3,T⟩:=aZ (u2.set B.size (.K true (cP (og G))))
   have Sj:aj 6 (Z (.ptr B.size 0)) (AP (og G)) u2=some (tt,u3):=by
    rw[T];have Sr:(V.agg (cP (og G))).cells.length=6/\0+6<=(cP bV).length:=⟨rfl,by simp[cP]⟩;simp only[aj,b2,af Sr];rw[show(V.agg (cP (og G))).cells=cP (og G) from rfl,cK (by rfl)]
   have g3:Gr B u3:=by
    rw[T];exact⟨St.wf_set g2.wf (g2.wf.lt b2) _,by simpa using g2.2.1,λc q=>by rw[St.bO (by omega)];exact g2.2.2 c q⟩
   have x:=(g.trans g1).trans g3;by_cases z:cg F e=0
   ·left;rw[af z]at o;rw[z]at n;refine⟨[v0,v1,Z y,J ((k+1:Nat):Int)],u3,f-1,?_,by omega,k+1,ed F e,by omega,rfl,x,by rw[S];exact sV H z,by omega⟩;unfold rP;clear C;generalize R (d+5)=r,((k+1:Nat):Int)=K1 at*;simp[Sn,Sk,w1,p1,e1,ai,U,Sj,n]
   ·right;rw[ae z]at o;have D:k=N:=(by omega);subst D;have w:¬G.1=0:=(by rw[n];exact z);refine⟨_,u3,?_,(λv hv=>by cases hv),rfl,x⟩;unfold rP;clear C n;generalize R (d+5)=r,((k+1:Nat):Int)=K1 at*;simp[Sn,Sk,w1,p1,e1,ai,U,Sj,w]
  ·right;have I:k=ik.length:=by omega
   rw[I,e7]at o;have D:k=N:=by rw[<-o];simp[l4,I]
   refine⟨.exit 0 [v0,v1,Z y,J (N:Nat)],u,?_,(λv hv=>by cases hv),rfl,g⟩;rw[<-D];have Sk:¬(k:Int)<(ik.length:Int):=by omega
   unfold rP;simp[Sn,Sk]) 8192 ik.length _ s
  ⟨0,j4,by omega,rfl,Gr.refl Su,rfl,by rw[ek,hN];omega⟩ (by omega)
 exact⟨t,lp,g⟩
abbrev wY(b other:Bs)(su Pg:Nat):List wB:=[⟨fF,b,su⟩,⟨bp 1,other,Pg⟩]
theorem kU:nX fF=true:=by decide
theorem qN:nX (bp 1)=true:=by decide
theorem qJ{n k:Nat}:lU fF 0 (wY b other n k)=((0:Nat):Int):=by rw[lU,af rfl]
theorem y3{n k:Nat}:lU (bp 1) 0 (wY b other n k)=((1:Nat):Int):=by rw[lU,ae (show ¬fF=bp 1 by decide),lU,af rfl]
theorem LO(d:Nat)(h:kX s p room x (wY b other n k))(hz:RI s z ls)(Sn:∀c,own z=some c->c<s.size)(SC:ls.length<=8000)(hid:∀a∈ls,1<=a.i/\a.i<=1073741824)(Sw:other.length<=8000) :
 ∃t,Gr s t/\loops (rQ (R (d+7)) 8192) 8192 [Z (.ptr p 0),v1,Z z,J 0] s=some (if ls.all (dN other)=true then .exit 2 [Z (.ptr p 0),v1,Z z]else .ret (.c6 [.s .c9,.s (.int .i64 2)]),t):=by
 obtain⟨j,t,lp,hj,g⟩:=aL (f:=rQ (R (d+7)) 8192)
  (λf v u=>∃(k:Nat),f+k=ls.length/\v=[Z (.ptr p 0),v1,Z z,J k]/\Gr s u/\(ls.drop k).all (dN other)=ls.all (dN other))
  (λj u=>j=(if ls.all (dN other)=true then .exit 2 [Z (.ptr p 0),v1,Z z]else .ret (.c6 [.s .c9,.s (.int .i64 2)]))/\Gr s u) (by
  rintro f v u ⟨k',hk,rfl,g,F⟩;have hu:=hz.gr Sn g;have Sl:=h.gr g;have Sr:=hu.lens;by_cases Sm:k'<ls.length
  ·obtain⟨a,ha⟩:=aZ (ls[k']);have O:ls[k']? = some a:=by rw[aU Sm,ha]
   rw[cU Sm,<-ha,nq]at F;obtain⟨SD,i2⟩:=hid a (bS O);obtain⟨m,SB⟩:∃m:Nat,a.i=(m:Int):=⟨a.i.toNat,by omega⟩;obtain⟨c,o,ix,li,ld⟩:=RI.Ia hu (n:=(k':Int)) rfl O;rw[iX]at li;rw[SB]at li;have Ss:(k':Int)<(ls.length:Int):=by omega
   have w1:IntKind.i64.wrap ((k':Int)+1)=((k'+1:Nat):Int):=by rw[aw _ (by omega) (by omega)];omega
   have e1:=Fe (s:=u) (n:=m) (d+5) (by omega) (by omega)
   have Sy:∃(w:Bs) (D:Int),R (d+7) 55 [Z (.ptr p 0),Z (.str (cO m))] u=some (.c6 [.s (.str w),.s (.int .i64 D)],u)/\w.length<=8000/\((D=0/\m=1/\w=other)\/(¬D=0/\¬m=1)):=by
    by_cases Q:m=1
    ·subst Q;have:=v8 (d+5) Sl (nm:=bp 1) (k:=1) (f:=⟨bp 1,other,k⟩) (by simp) (by decide) qN y3 rfl;exact⟨other,0,by rw[E3];exact this,Sw,.inl ⟨rfl,rfl,rfl⟩⟩
    ·obtain⟨D,X,hc⟩:=LU (d+5) Sl (nm:=cO m) (by simp) (by have:=xK m;omega) (λf SA=>by
      simp only[cq,Fy,or_false]at SA;rcases SA with rfl | rfl
      ·exact λe=>sg m e.symm
      ·exact λe=>Q (xL e.symm))
     exact⟨[],D,X,by simp,.inr ⟨hc,Q⟩⟩
   obtain⟨w,D,X,Su,Sk⟩:=Sy;obtain⟨u1,e3,g1⟩:=Ca (s:=u) (bs:=w) d g.wf Su;obtain⟨u2,B,g2,b2,z2⟩:=CR g1.wf;obtain⟨H,N⟩:=aZ ((match dS w with | some g=>o8 g | none=>⟨0,0,0,0,0⟩):eG);obtain⟨C0,I⟩:=aZ ((match dS w with | some g=>0 | none=>2):Int)
   have G:P0 (dS w) = .c6 [.agg (cI H),.s (.int .i64 C0)]:=by
    rw[N,I];cases dS w<;>rfl
   rw[G]at e3;obtain⟨u3,U⟩:=aZ (u2.set u1.size (.K true (cI H)));have C:aj 5 (Z (.ptr u1.size 0)) (AI H) u2=some (tt,u3):=by rw[U];exact p2 b2 rfl
   have g3:Gr u1 u3:=by
    rw[U];exact⟨St.wf_set g2.wf (g2.wf.lt b2) _,by simpa using g2.2.1,λc hc=>by rw[St.bO (by omega)];exact g2.2.2 c hc⟩
   have l3:=tg (m:=u3.get) (by rw[U];exact St.dh:u3.get u1.size=some (.K true (cI H)));have gu:=g1.trans g3;have q:=g.trans gu
   have Sp:ay 5 (Z (.ptr c o)) u3.get=some (AI a):=by
    obtain⟨c',o',Sx,_,Sz⟩:=RI.Ia (hz.gr Sn q) (n:=(k':Int)) rfl O;have hh:some (Z (S.ptr c o))=some (Z (S.ptr c' o')):=ix.symm.trans Sx;simp only[jD,T.v.injEq,V.s.injEq,S.ptr.injEq]at hh;rw[hh.1,hh.2];exact Sz
   have ne:=R6 H a
   have y:dN other a=(decide (D=0)&&decide (C0=0)&&decide (H=a)):=by
    unfold dN;rcases Sk with ⟨rfl,rfl,rfl⟩ | ⟨h1,h2⟩
    ·rw[SB,N,I];cases dS w<;>simp
    ·rw[aR h1,aR (show ¬a.i=1 by omega)];rfl
   clear N I G Sk;by_cases Y:dN other a=true
   ·left;rw[Y,dX]at F;rw[Y]at y;have Sj:=y.symm;rw[aM,aM,bK,bK,bK]at Sj;obtain⟨⟨k1,k2⟩,k3⟩:=Sj;refine⟨[Z (.ptr p 0),v1,Z z,J ((k'+1:Nat):Int)],u3,f-1,?_,by omega,k'+1,by omega,rfl,q,F⟩;unfold rQ;subst k1;subst k2;rw[aK k3]at ne;clear y k3;generalize R (d+7)=r at*;simp[Sr,Ss,ix,li,e1,X,ai,e3,B,C,l3,Sp,ne,w1,bD]
   ·right;have Y:dN other a=false:=by simpa using Y
    rw[Y,gh]at F;rw[Y]at y;have E:¬ls.all (dN other)=true:=(by rw[<-F];simp);rw[ae E];refine⟨_,u3,?_,(λv h=>by cases h),rfl,q⟩;unfold rQ;clear F E;by_cases k1:D=0
    ·subst k1;by_cases k2:C0=0
     ·subst k2;have k3:¬H=a:=λe=>by rw[aK e]at y;simp at y
      rw[aR k3]at ne;clear y;generalize R (d+7)=r at*;simp[Sr,Ss,ix,li,e1,X,ai,e3,B,C,l3,Sp,ne,bD,aD,a8]
     ·clear y;generalize R (d+7)=r at*;simp[Sr,Ss,ix,li,e1,X,ai,e3,B,C,k2,bD,aD,a8]
    ·clear y;generalize R (d+7)=r at*;simp[Sr,Ss,ix,li,e1,X,ai,e3,B,C,k1,bD,aD,a8]
  ·right;have Sv:k'=ls.length:=by omega
   subst Sv;rw[e7,Eh]at F;rw[af F.symm];refine⟨_,u,?_,(λv h=>by cases h),rfl,g⟩;unfold rQ;simp[Sr])
  8192 ls.length _ s ⟨0,by omega,rfl,Gr.refl h.wf,by simp⟩ (by omega)
 exact⟨t,g,by rw[<-hj];exact lp⟩
theorem Cf(d:Nat)(Sj:s.wf){v3 v4:T}(H:RI s z ls)(O:ls.length<=8000)(hid:∀a∈ls,1<=a.i/\a.i<=1073741824){I:T}(x:ar 1 v3 v4=some I)(C:aa I s.get=some (Z (.str nm))) :
 loops (vf (R (d+2)) 8192) 8192 [v0,v1,Z z,v3,v4,B false,J 0] s=some (.exit 6 [v0,v1,Z z,v3,v4,B (ls.any λa=>decide (cO a.i.toNat=nm))],s):=by
 obtain⟨j,t,U,rfl,rfl⟩:=aL (f:=vf (R (d+2)) 8192)
  (λf v u=>∃(k:Nat) (w:Bool),f+k=ls.length/\v=[v0,v1,Z z,v3,v4,B w,J k]/\u=s/\(w||(ls.drop k).any λa=>decide (cO a.i.toNat=nm))=ls.any λa=>decide (cO a.i.toNat=nm))
  (λj u=>j = .exit 6 [v0,v1,Z z,v3,v4,B (ls.any λa=>decide (cO a.i.toNat=nm))]/\u=s) (by
  rintro f v u ⟨k,w,V,rfl,rfl,q⟩;have E:=H.lens;by_cases g:k<ls.length
  ·left;obtain⟨a,G⟩:=aZ (ls[k]);have e:ls[k]? = some a:=by rw[aU g,G]
   rw[cU g,<-G,z7,<-Bool.or_assoc]at q;obtain⟨X,Y⟩:=hid a (bS e);obtain⟨m,Q⟩:∃m:Nat,a.i=(m:Int):=⟨a.i.toNat,by omega⟩;have D:a.i.toNat=m:=by omega
   rw[D]at q;obtain⟨c,o,S,li,_⟩:=RI.Ia H (n:=(k:Int)) rfl e;rw[iX,Q]at li;have F:(k:Int)<(ls.length:Int):=by omega
   have w1:IntKind.i64.wrap ((k:Int)+1)=((k+1:Nat):Int):=by rw[aw _ (by omega) (by omega)];omega
   have N:=Fe (s:=u) (n:=m) d (by omega) (by omega);refine⟨[v0,v1,Z z,v3,v4,B (w||decide (cO m=nm)),J ((k+1:Nat):Int)],u,f-1,?_,by omega,k+1,_,by omega,rfl,rfl,q⟩;unfold vf;generalize R (d+2)=r at*;cases w with
   |true=>simp[E,F,w1,wq,bD]
   |false=>simp[E,F,S,li,N,x,C,w1,wq,bD]
  ·right;have y:k=ls.length:=by omega
   subst y;rw[e7,List.any_nil,Bool.or_false]at q;refine⟨_,u,?_,(λv h=>by cases h),rfl,rfl⟩;rw[q];unfold vf;simp[E])
  8192 ls.length _ s ⟨0,false,by omega,rfl,rfl,by simp⟩ (by omega)
 exact U
end
section
variable {s t u:St}{x y z:S}{e n p P i k:Nat}{vs:List S}{room:Int}{fs:List wB}{nm b other:Bs}{f:wB}{ik es:List bM}{q:gJ}{ls:List eG}{v0 v1:T}{su Pg:Nat}
def sY(ls:List eG)(b other:Bs)(n k:Nat):List wB:=if ls=[]then [⟨fF,b,n⟩]else wY b other n k
theorem LP(d:Nat)(h:kX s p room x (wY b other n k))(S:Rd 1 s y 2 [.str fF,.str (bp 1)])(hz:RI s z ls)(E:ls.length<=8000)(hid:∀a∈ls,a.i=1) :
 ∃x' t,loops (hO (R (d+2)) 8192) 8192 [Z (.ptr p 0),v1,Z z,Z y,J 0] s=some (.exit 4 [v1],t)/\kX t p room x' (sY ls b other n k)/\s.size<=t.size/\∀c,c<s.size->c≠p->t.get c=s.get c:=by
 have g:∀a∈ls,1<=a.i/\a.i<=1073741824:=λa ha=>by have:=hid a ha;omega
 obtain⟨p0,G,N⟩:=S.CJ (i:=0) (j:=0) (v := .str fF) rfl rfl;obtain⟨p1,o,q⟩:=S.CJ (i:=1) (j:=1) (v := .str (bp 1)) rfl rfl;have B:=S.lens;have T:((2:Nat):Int)=2:=rfl;rw[T]at B;have I:=Cf (v0:=Z (.ptr p 0)) (v1:=v1) d h.wf hz E g (v3:=Z y) (v4:=J 0) G N;have e:=Cf (v0:=Z (.ptr p 0)) (v1:=v1) d h.wf hz E g (v3:=Z y) (v4:=J 1) o q
 have C:(ls.any λa=>decide (cO a.i.toNat=fF))=false:=by
  rw[Ei];intro a ha;simp[sg a.i.toNat]
 have D:(ls.any λa=>decide (cO a.i.toNat=bp 1)) = !decide (ls=[]):=by
  cases ls with
  |nil=>rfl
  |cons a r=>
   have:cO a.i.toNat=bp 1:=by rw[hid a eF];exact E3
   simp[this]
 rw[C]at I;rw[D]at e;have Sj:=LV (s:=s) (d+1);have Y:=OU (s:=s) (d+1);have w1:IntKind.i64.wrap 1=1:=rfl;have w2:IntKind.i64.wrap 2=2:=rfl
 have V:hO (R (d+2)) 8192 [Z (.ptr p 0),v1,Z z,Z y,J 0] s=some (.normal [Z (.ptr p 0),v1,Z z,Z y,J 1],s):=by
  unfold hO;generalize R (d+2)=r at*;simp[B,I,G,N,Sj,w1,bD]
 have X:∀w:St,Rd 1 w y 2 [.str fF,.str (bp 1)]->hO (R (d+2)) 8192 [Z (.ptr p 0),v1,Z z,Z y,J 2] w=some (.exit 4 [v1],w):=λw _=>by
  unfold hO;generalize R (d+2)=r at*;simp[B]
 have H:∀(F:Nat) (w:St),hO (R (d+2)) 8192 [Z (.ptr p 0),v1,Z z,Z y,J 1] s=some (.normal [Z (.ptr p 0),v1,Z z,Z y,J 2],w)->hO (R (d+2)) 8192 [Z (.ptr p 0),v1,Z z,Z y,J 2] w=some (.exit 4 [v1],w) →
  loops (hO (R (d+2)) 8192) (F+3) [Z (.ptr p 0),v1,Z z,Z y,J 0] s=some (.exit 4 [v1],w):=λF w h1 U=>by
  rw[loops,V];dsimp only;rw[loops,h1];dsimp only;rw[loops,U]
 by_cases Q:ls=[]
 ·obtain⟨x',t,e2,U,z2,k2,n2⟩:=OT d h (k:=1) (nm:=bp 1) (by simp) (by decide) qN y3 (by simp);rw[aK Q,p7]at e
  have u:hO (R (d+2)) 8192 [Z (.ptr p 0),v1,Z z,Z y,J 1] s=some (.normal [Z (.ptr p 0),v1,Z z,Z y,J 2],t):=by
   unfold hO;generalize R (d+2)=r at*;simp[B,e,o,q,Y,e2,w2,bD]
  have O:hO (R (d+2)) 8192 [Z (.ptr p 0),v1,Z z,Z y,J 2] t=some (.exit 4 [v1],t):=by
   unfold hO;generalize R (d+2)=r at*;simp[B]
  refine⟨x',t,H (8192-3) t u O,?_,z2,k2⟩;unfold sY;rw[af Q];exact U
 ·rw[aR Q,Ef]at e
  have u:hO (R (d+2)) 8192 [Z (.ptr p 0),v1,Z z,Z y,J 1] s=some (.normal [Z (.ptr p 0),v1,Z z,Z y,J 2],s):=by
   unfold hO;generalize R (d+2)=r at*;simp[B,e,o,q,Y,w2,bD]
  refine⟨x,s,H (8192-3) s u (X s S),?_,au _,λc _ _=>rfl⟩;unfold sY;rw[ae Q];exact h
theorem DD(d:Nat)(N:s.wf)(h:RE s y ik)(w:∀c,own y=some c->c<s.size)(G:∀e∈ik,bR e=true/\nI e)(O:ik.length<=2000)(E:n<=ik.length)(D:(bj (ik.take n)).length<=90000) :
 ∃t,R (d+8) 59 [Z y,J (n:Nat)] s=some (J (bj (ik.take n)).length,t)/\Gr s t:=by
 obtain⟨B,I,j,x⟩:=Rd.upto h E;rw[fp mq]at j;have q:(ik.take n).length=n:=by rw[bb];omega
 have k:RE s B (ik.take n):=by unfold RE;rw[q];exact j
 have H:∀c,own B=some c->c<s.size:=λc o=>by
  rcases x with e | e
  ·rw[e]at o;cases o
  ·rw[e]at o;exact w c o
 have u:∀e∈ik.take n,bR e=true/\nI e:=λe g=>G e (nc g)
 obtain⟨t,z,C⟩:=B3 d N k H (λe g=>(u e g).2) (λe g=>by have:=j9 (u e g).1;omega) (by omega) D
 have F:yw (ik.take n)=(bj (ik.take n),0):=by
  unfold yw;rw[af (e6.2 λe g=>(u e g).1),af (by omega)]
 rw[F]at z;refine⟨t,?_,C⟩;have ls:aV (Z (.str (bj (ik.take n))))=some (J (bj (ik.take n)).length):=rfl;rw[Nv];unfold f59;generalize R (d+7)=r at*;simp[I,z,ai,ls]
structure RV(s:St)(P p:Nat)(lx:S)(es:List bM):Prop where
 st:s.get P=some (.K true [.ptr p 0,lx,.int .i64 es.length])
 re:RE s lx es
 ol:∀c,own lx=some c->c<s.size
theorem x7(d:Nat)(h:kX s p room x (wY b other su Pg))(Td:b.length<=7900)(Te:other.length<=8000){N N0:Nat}(SN:fV b=(ik,N0))(hE:es=ik.take (l4 j4 ik))(hQ:q=wE j4 ik)(hN:N=(bj es).length)(Ta:N<=b.length) :
 (q.l.all (dN other)=true->∃P lx x' t,R (d+9) 15 [Z (.ptr p 0)] s=some (.c6 [.s (.ptr P 0),.s (iz)],t)/\kX t p room x' (sY q.l (b.take N) other N Pg)/\RV t P p lx es/\s.size<=t.size/\∀c,c<s.size->c≠p->own x≠some c->t.get c=s.get c) ∧
 (q.l.all (dN other)=false->∃t,R (d+9) 15 [Z (.ptr p 0)] s=some (.c6 [.s .c9,.s (.int .i64 2)],t)/\t.wf/\s.size<=t.size/\∀c,c<s.size->c≠p->own x≠some c->t.get c=s.get c):=by
 obtain⟨Tj,Tm,SB,SO⟩:=vT SN;have SA:=Ew j4 ik;obtain⟨A,hA⟩:=aZ (l4 j4 ik);rw[<-hA]at hE SA;have Sr:es.length=A:=by rw[hE,bb];omega
 have C:bT j4 es=(0,q):=by rw[hE,hA,hQ];exact AD j4 ik
 have SP:=(oM C yY).2.1
 have Q:q.l.length<=8000:=by
  have h1:=SP.len;have h2:=(oM C yY).2.2;have h3:j4.dV.length=0:=rfl;omega
 have Tn:=h.pl;obtain⟨s1,Sl⟩:=aZ (s.push (.K true [.ptr p 0,.av,iz]));obtain⟨P,hP⟩:=aZ (s.size);have SF:aO (aA [.c9,.av,iz] [(0,1,Z (.ptr p 0))])=some (.v (.agg [.ptr p 0,.av,iz])):=rfl;have SR:aE s (b6 (.v (.agg [.ptr p 0,.av,iz])))=some (Z (.ptr P 0),s1):=by rw[Sl,hP];rfl
 have g1:Gr s s1:=by rw[Sl];exact Gr.push h.wf _
 have b1:s1.get P=some (.K true [.ptr p 0,.av,iz]):=by rw[Sl,hP];exact St.ec
 have z1:s1.size=s.size+1:=by rw[Sl];simp
 have h1:=h.gr g1;have Sm:own x≠some P:=λe=>by have:=h.xl e;omega
 have e1:=v8 (d+6) h1 (nm:=fF) (k:=0) (f:=⟨fF,b,su⟩) (by simp) (by decide) kU qJ rfl;dsimp only at e1;obtain⟨y,s3,e2,F3,SC⟩:=HI (d+1) g1.wf Td;rw[SN]at e2 F3 SC;dsimp only at F3 SC;have z3:=F3.gr.2.1;have O:∀c,own y=some c->s1.size<=c/\c<s3.size:=F3.new;obtain⟨s4,e4,g4⟩:=LN (v0:=Z (.ptr p 0)) (v1:=Z (.ptr P 0)) (d+3) F3.gr.wf F3.rd (λc g=>(O c g).2) SB SO;rw[<-hA]at e4;have G:=F3.gr.trans g4;have z4:=g4.2.1;have SX:RE s4 y ik:=F3.rd.gr (λc g=>(O c g).2) g4;obtain⟨lx,p5,SS,Th⟩:=Rd.QV SX (λh0=>SC (cJ h0)) SA;rw[fp mq,<-hE]at SS;have SU:RE s4 lx es:=by unfold RE;rw[Sr];exact SS
 have j:∀c,own lx=some c->s1.size<=c/\c<s4.size:=λc g=>by
  rcases Th with e | e
  ·rw[e]at g;cases g
  ·rw[e]at g;have:=O c g;omega
 have b4:s4.get P=some (.K true [.ptr p 0,.av,iz]):=G.get b1 g1.wf;obtain⟨s5,T⟩:=aZ (s4.set P (.K true [.ptr p 0,lx,iz]));have S2:aj 1 (Z (.ptr P 1)) (Z lx) s4=some (tt,s5):=by rw[T];exact aJ b4 (by simp)
 have b5:s5.get P=some (.K true [.ptr p 0,lx,iz]):=by rw[T];exact St.dh
 have k5:∀c,c≠P->s5.get c=s4.get c:=λc g=>by rw[T];exact St.bO g
 have SE:s5.wf:=by rw[T];exact St.wf_set G.wf (G.wf.lt b4) _
 have z5:s5.size=s4.size:=by rw[T];simp
 have h5:kX s5 p room x (wY b other su Pg):=(h1.gr G).keep SE (k5 p (by omega)) λc g=>k5 c λe=>Sm (by rw[g,e])
 have Ti:RE s5 y ik:=SX.keep λc g=>k5 c (by have:=O c g;omega)
 have SV:RE s5 lx es:=SU.keep λc g=>k5 c (by have:=j c g;omega)
 obtain⟨s6,S6,g6⟩:=DD d SE Ti (λc g=>by have:=O c g;omega) SB SO SA (by rw[<-hE,<-hN];omega);rw[<-hE,<-hN]at S6;have h6:=h5.gr g6;obtain⟨s7,e7,h7,z7,k7⟩:=OK (d+6) h6 (nm:=fF) (k:=0) (f:=⟨fF,b,su⟩) (n:=N) (by simp) (by decide) kU qJ rfl Ta (by dsimp only;omega);dsimp only at h7;have S9:kX s7 p room x (wY (b.take N) other (min su N) Pg):=h7;obtain⟨s8,e8,h8,z8,k8⟩:=LW (d+6) S9 (nm:=fF) (k:=0) (f:=⟨fF,b.take N,min su N⟩) (by simp) (by decide) kU qJ rfl;have Tb:(b.take N).length=N:=by rw[bb];omega
 dsimp only at h8;rw[Tb]at h8;have Sz:kX s8 p room x (wY (b.take N) other N Pg):=h8;have z6:=g6.2.1;have Tc:P<s5.size:=SE.lt b5;have b8:s8.get P=some (.K true [.ptr p 0,lx,iz]):=by rw[k8 P Sm,k7 P Sm,g6.2.2 P Tc];exact b5
 obtain⟨s9,U⟩:=aZ (s8.set P (.K true [.ptr p 0,lx,.int .i64 (A:Nat)]));have S3:aj 1 (Z (.ptr P 2)) (J (A:Nat)) s8=some (tt,s9):=by rw[U];exact aJ b8 (by simp)
 have b9:s9.get P=some (.K true [.ptr p 0,lx,.int .i64 (A:Nat)]):=by rw[U];exact St.dh
 have S5:∀c,c≠P->s9.get c=s8.get c:=λc g=>by rw[U];exact St.bO g
 have S4:s9.wf:=by rw[U];exact St.wf_set Sz.wf (Sz.wf.lt b8) _
 have z9:s9.size=s8.size:=by rw[U];simp
 have h9:kX s9 p room x (wY (b.take N) other N Pg):=Sz.keep S4 (S5 p (by omega)) λc g=>S5 c λe=>Sm (by rw[g,e])
 have SQ:∀c,own lx=some c->own x≠some c:=λc g e=>by have:=j c g;have:=h.xl e;omega
 have SW:RE s9 lx es:=SV.keep λc g=>by
  have:=j c g;rw[S5 c (by omega),k8 c (SQ c g),k7 c (SQ c g),g6.2.2 c (by omega)]
 have l9:aa (Z (.ptr P 1)) s9.get=some (Z lx):=ag b9 rfl
 obtain⟨z,w,SH,SJ,rz,Tk⟩:=pX (d+3) S4 SW (λc g=>by have:=j c g;omega) (by omega) λe he=>by
  rw[hE]at he;have:=j9 (SB e (nc he)).1;omega
 rw[C]at SH rz;have Tf:DG (0,q)=q.l:=by unfold DG;rw[af rfl]
 rw[Tf]at rz;have Tg:og (0,q)=q.cX:=by unfold og;rw[af rfl]
 have Sn:R (d+8) 57 [Z lx] s9=some (.c6 [.s z,.agg (cP q.cX),.s (.int .i64 (OO (0,q))),.s (iz)],w):=by rw[<-Tg];exact SH
 obtain⟨Cl,S⟩:=aZ (w.push (.K true (cP bV)));have Sv:aE w (a6 [iz,iz,iz,iz,iz,iz])=some (Z (.ptr w.size 0),Cl):=by rw[S];rfl
 have Sk:Gr w Cl:=by rw[S];exact Gr.push SJ.wf _
 have SG:Cl.get w.size=some (.K true (cP bV)):=by rw[S];exact St.ec
 obtain⟨P8,Ss⟩:=aZ (Cl.set w.size (.K true (cP q.cX)))
 have Sx:aj 6 (Z (.ptr w.size 0)) (AP q.cX) Cl=some (tt,P8):=by
  rw[Ss];have Td:(V.agg (cP q.cX)).cells.length=6/\0+6<=(cP bV).length:=⟨rfl,by simp[cP]⟩;simp only[aj,SG,af Td];rw[show(V.agg (cP q.cX)).cells=cP q.cX from rfl,cK (by rfl)]
 have Sy:Gr w P8:=by
  rw[Ss];exact⟨St.wf_set Sk.wf (Sk.wf.lt SG) _,by simpa using Sk.2.1,λc g=>by rw[St.bO (by omega)];exact Sk.2.2 c g⟩
 have Sp:=SJ.trans Sy;have SK:=h9.gr Sp;have Sw:RI P8 z q.l:=rz.gr Tk Sy;have Y:∀c,own z=some c->c<P8.size:=λc g=>bh (Tk c g) Sy.2.1
 obtain⟨S0,F,u⟩:=LO (v1:=Z (.ptr P 0)) (d+1) SK Sw Y Q SP.OQ Te
 have X:∀c,c<s.size->c≠p->own x≠some c->s9.get c=s.get c:=λc g I E=>by
  rw[S5 c (by omega),k8 c E,k7 c E,g6.2.2 c (by omega),k5 c (by omega),G.2.2 c (by omega),g1.2.2 c g]
 have H:=Sp.trans F;refine⟨λD => ?_,λD => ?_⟩
 rotate_left
 ·rw[ae (by rw[D];simp)]at u;refine⟨S0,?_,F.wf,by have:=H.2.1;omega,λc g I E=>by rw[H.2.2 c (by omega)];exact X c g I E⟩;rw[EG];unfold f15;rw[show fF=[108,111,103] from rfl]at e1 e7 e8;have an:ba (Z (.ptr P 0))=some (Z (.ptr P 0)):=rfl;simp only[aH,Nat.reduceAdd]at e1 e2 e4 e7 e8 u;generalize R (d+8)=r at*;simp[SF,SR,e1,ai,e2,e4,p5,an,S2,S6,e7,e8,S3,l9,Sn,Sv,Sx,u]
 rw[af D]at u;have SL:=SK.gr F;have SY:RI S0 z q.l:=Sw.gr Y F;obtain⟨o,S1,SI,Sj⟩:=tz (d+7) SL (by simp);have S7:=SL.gr Sj.gr;have SZ:RI S1 z q.l:=SY.gr (λc g=>by have:=Y c g;have:=F.2.1;omega) Sj.gr
 have hid:∀a∈q.l,a.i=1:=λa ha=>by
  have:=e6.1 D a ha;unfold dN at this;rw[aM]at this;exact fL this.1
 obtain⟨x',t,Su,S8,To,SD⟩:=LP (v1:=Z (.ptr P 0)) (d+6) S7 Sj.rd SZ Q hid;have B:=H.trans Sj.gr;have SM:P<S1.size:=by have:=B.2.1;omega
 have Tl:=B.2.1;refine⟨P,lx,x',t,?_,S8,⟨?_,?_,?_⟩,by omega,λc g I E=>by rw[SD c (by omega) I,B.2.2 c (by omega)];exact X c g I E⟩
 ·rw[EG];unfold f15;rw[show fF=[108,111,103] from rfl]at e1 e7 e8;have an:ba (Z (.ptr P 0))=some (Z (.ptr P 0)):=rfl;simp only[aH,Nat.reduceAdd]at e1 e2 e4 e7 e8 u SI Su;generalize R (d+8)=r at*;simp[SF,SR,e1,ai,e2,e4,p5,an,S2,S6,e7,e8,S3,l9,Sn,Sv,Sx,u,SI,Su,aD,a8]
 ·rw[SD P SM (by omega),B.2.2 P (by omega),b9,Sr]
 ·exact SW.keep λc g=>by
   have:=j c g;rw[SD c (by omega) (by omega),B.2.2 c (by omega)]
 ·intro c g;have:=j c g;omega
end
def NU(f:wB):FV:=⟨f.nm,U f.b,f.su⟩
structure Rp(K:List wB):Prop where
 ok:∀(k:Nat) (f:wB),K[k]? = some f->Ah f.nm/\nX f.nm=true/\lU f.nm 0 K=(k:Nat)/\f.nm.length<=20
 Sf:dL (K.map λf=>f.nm)=K.map λf=>f.nm
 len:K.length<=100
 tot:lW K<=100000
section
variable {ρ:Nat->Nat}{s t u:St}{D:w9}{room rm:Int}{fs:List Fl}{l es:List bM}{q:gJ}{sure p P:Nat}{x y z lx:S}{K:List wB}{f:wB}{b other:Bs}{n k:Nat}
theorem D5(d:Nat)(h:bU ρ s D room fs l q sure)(e:q.l.length<=8000):∃y t,R (d+3) 27 [Z (.ptr D.p 0)] s=some (Z y,t)/\Fr 5 s t y q.l.length (cells cI q.l):=by
 have f:lu .p (Z (.ptr D.p 0)) (Z .c9)=some (B false):=rfl;have g:aa (Z (.ptr D.p 3)) s.get=some (Z (.ptr D.b 0)):=ag h.st rfl;obtain⟨y,t,a,c⟩:=xz d h.hf e;refine⟨y,t,?_,c⟩;rw[M8];unfold f27;generalize R (d+2)=i at*;simp[f,g,a]
theorem HO(d:Nat)(h:bU ρ s D room fs l q sure)(hr:kX s p rm x K)(hP:s.get P=some (.K true [.ptr p 0,lx,.int .i64 n]))(B:Rp K)(hv:ib fs=K.map NU)(Q:Rd 1 s y K.length (K.map λf=>S.str f.nm))(o:∀c,own y=some c->c<s.size)(T:Rd 1 s z K.length (K.map λf=>S.str f.nm))(w:∀c,own z=some c->c<s.size) :
 ∃t,loops (vg (R (d+3)) 8192) 8192 [Z (.ptr P 0),Z (.ptr D.i 0),Z y,Z z,J 0] s=some (.exit 0 [],t)/\Gr s t:=by
 obtain⟨j,t,lp,rfl,g⟩:=aL (f:=vg (R (d+3)) 8192)
  (λq v u=>∃k:Nat,q+k=K.length/\v=[Z (.ptr P 0),Z (.ptr D.i 0),Z y,Z z,J k]/\Gr s u)
  (λj u=>j = .exit 0 []/\Gr s u) (by
  rintro q v u ⟨k,hk,rfl,g⟩;have F:=Q.gr o g;have G:=T.gr w g;have V:=F.lens;by_cases E:k<K.length
  ·left;obtain⟨f,Sk⟩:=aZ (K[k]);have a:K[k]? = some f:=by rw[aU E,Sk]
   obtain⟨k1,k2,U,k4⟩:=B.ok k f a;have e:(K.map λf=>S.str f.nm)[k]? = some (.str f.nm):=by rw[cL,a];rfl
   obtain⟨pz,iz,lz⟩:=G.CJ (i:=(k:Int)) (j:=k) rfl e;have A:NU f∈ib fs:=by rw[hv];exact gX (bS a)
   obtain⟨yb,N,Y,g1,rb,ob⟩:=xy d (h.gr g) k1 A rfl (bs:=f.b) rfl;have m:=g.trans g1;have lP:aa (Z (.ptr P 0)) N.get=some (Z (.ptr p 0)):=ag (m.get hP h.nE) rfl;obtain⟨Se,I,M⟩:=(T.gr w m).CJ (i:=(k:Int)) (j:=k) rfl e;obtain rfl:pz=Se:=dQ (iz.symm.trans I);have Sj:=B.len;obtain⟨Sl,H,L⟩:=(Q.gr o m).CJ (i:=(k:Int)) (j:=k) rfl e;have O:=v8 (d+1) (hr.gr m) (by have:=B.len;omega) (by omega) k2 U a;have Sm:bQ (Z yb) N.get=some (Z (.str f.b)):=RB.str rb;have W:ba (Z (.ptr P 0))=some (Z (.ptr P 0)):=rfl;have X:(k:Int)<(K.length:Int):=by omega
   have w1:IntKind.i64.wrap ((k:Int)+1)=((k+1:Nat):Int):=by rw[aw _ (by omega) (by omega)];omega
   refine⟨[Z (.ptr P 0),Z (.ptr D.i 0),Z y,Z z,J ((k+1:Nat):Int)],N,q-1,?_,by omega,k+1,by omega,rfl,m⟩;unfold vg;simp only[aH,Nat.reduceAdd]at O;clear e A U;generalize R (d+3)=r at*;simp[V,X,iz,lz,Y,ai,W,lP,M,O,H,L,Sm,w1,bD]
  ·right;have C:k=K.length:=by omega
   subst C;refine⟨.exit 0 [],u,?_,(λv h=>by cases h),rfl,g⟩;unfold vg;simp[V])
  8192 K.length _ s ⟨0,by omega,rfl,Gr.refl h.nE⟩ (by have:=B.len;omega)
 exact⟨t,lp,g⟩
theorem O3(b:ib fs=K.map NU):tot fs=lW K:=by
 have a:fs.map (λf=>f.l.length)=(ib fs).map λv=>v.l.length:=by
  unfold ib;rw[jy];rfl
 unfold tot lW;rw[a,b,jy]
 congr 1
 apply oZ;intro f _;simp[NU]
theorem LZ(d:Nat)(h:bU ρ s D room fs es q es.length)(hr:kX s p rm x K)(o:RV s P p lx es)(hK:Rp K)(hv:ib fs=K.map NU)(hx:∀e∈es,e.x.length<=8000):∃t,R (d+13) 16 [Z (.ptr D.p 0),Z (.ptr P 0),Z (.ptr D.i 0)] s=some (B true,t)/\Gr s t:=by
 have SF:=h.fo;obtain⟨_,SG,SW⟩:=h.ok;have Ss:q.l.length<=8000:=by have:=SG.len;omega
 have SV:es.length<=2000:=h.PK;have an:ba (Z (.ptr P 0))=some (Z (.ptr P 0)):=rfl;have SZ:aa (Z (.ptr P 1)) s.get=some (Z lx):=ag o.st rfl;obtain⟨z,u,e1,g1,rz,S0⟩:=pX (d+7) h.nE o.re o.ol (by omega) hx;rw[SF]at e1 rz;have SH:DG (0,q)=q.l:=by unfold DG;rw[af rfl]
 rw[SH]at rz;have SI:og (0,q)=q.cX:=by unfold og;rw[af rfl]
 have SB:R (d+12) 57 [Z lx] s=some (.c6 [.s z,.agg (cP q.cX),.s (.int .i64 (OO (0,q))),.s (iz)],u):=by rw[<-SI];exact e1
 obtain⟨s2,Q⟩:=aZ (u.push (.K true (cP bV)));have SO:aE u (a6 [iz,iz,iz,iz,iz,iz])=some (Z (.ptr u.size 0),s2):=by rw[Q];rfl
 have g2:Gr u s2:=by rw[Q];exact Gr.push g1.wf _
 have b2:s2.get u.size=some (.K true (cP bV)):=by rw[Q];exact St.ec
 obtain⟨s3,T⟩:=aZ (s2.set u.size (.K true (cP q.cX)))
 have SP:aj 6 (Z (.ptr u.size 0)) (AP q.cX) s2=some (tt,s3):=by
  rw[T];have SU:(V.agg (cP q.cX)).cells.length=6/\0+6<=(cP bV).length:=⟨rfl,by simp[cP]⟩;simp only[aj,b2,af SU];rw[show(V.agg (cP q.cX)).cells=cP q.cX from rfl,cK (by rfl)]
 have b3:s3.get u.size=some (.K true (cP q.cX)):=by rw[T];exact St.dh
 have g3:Gr u s3:=by
  rw[T];exact⟨St.wf_set g2.wf (g2.wf.lt b2) _,by simpa using g2.2.1,λc C=>by rw[St.bO (by omega)];exact g2.2.2 c C⟩
 have w:=g1.trans g3;have h3:=h.gr w
 have Sr:∀f∈fs,f.nm.length<=1000:=λf SX=>by
  have:vw f∈K.map NU:=by rw[<-hv];exact gX SX
  obtain⟨SQ,SE,e⟩:=gl.1 this;obtain⟨k,hk⟩:=iT SE;have h4:=(hK.ok k SQ hk).2.2.2;have:f.nm=SQ.nm:=(bw FV.nm e).symm;rw[this];omega
 have Sp:fs.length=K.length:=by
  have:=bw List.length hv
  simpa[ib]using this
 have F:fs.map (·.nm)=K.map λf=>f.nm:=by rw[<-sA,hv,jy];rfl
 have SS:=hK.len
 have names:∃yn Y,R (d+12) 29 [Z (.ptr D.i 0)] s3=some (Z yn,Y)/\Gr s3 Y/\Rd 1 Y yn K.length (K.map λf=>S.str f.nm)/\∀c,own yn=some c->c<Y.size:=by
  rcases pL (d+11) h3.dk Sr (by omega)with ⟨rfl,e⟩ | ⟨SY,e⟩
  ·have SD:K=[]:=by simpa using Sp.symm
   subst SD;exact⟨.av,s3,e,Gr.refl h3.nE,Rd.nil 1 s3,λc C=>by cases C⟩
  ·rw[F,hK.Sf]at e;refine⟨_,_,e,Gr.push h3.nE _,⟨by simp,.inr ⟨s3.size,0,_,false,_,by rw[Sp],St.ec,by simp,?_⟩,rfl⟩,λc C=>by cases C;simp⟩;rw[ek,jy];exact b8 (by simp)
 obtain⟨yn,Y,e4,g4,SA,Sz⟩:=names;have I:=w.trans g4;have SK:aa (Z (.ptr P 0)) s3.get=some (Z (.ptr p 0)):=ag (w.get o.st h.nE) rfl;have SL:aa (Z (.ptr P 0)) Y.get=some (Z (.ptr p 0)):=ag (I.get o.st h.nE) rfl;obtain⟨zn,s5,e5,E⟩:=tz (d+11) (hr.gr I) (by omega);have N:=I.trans E.gr;obtain⟨ye,s6,e6,F6⟩:=A3 (d+10) (h.gr N);have y:=N.trans F6.gr;have Sx:aa (Z (.ptr P 1)) s5.get=some (Z lx):=ag (N.get o.st h.nE) rfl;have Sy:aa (Z (.ptr P 1)) s6.get=some (Z lx):=ag (y.get o.st h.nE) rfl;have e7:=HJ (d+9) y.wf F6.rd (o.re.gr o.ol y) (by omega);rw[aK rfl]at e7;obtain⟨yi,s8,e8,F8⟩:=D5 (d+9) (h.gr y) Ss;have Sm:=y.trans F8.gr;have SC:Gr u s8:=(g3.trans g4).trans (E.gr.trans (F6.gr.trans F8.gr));have e9:=DO (d+11) F8.rd (rz.gr S0 SC) Ss;rw[aK rfl]at e9;obtain⟨X,Sj,O⟩:=LX (d+10) (h.gr Sm);have j:=Sm.trans O;have G:Gr s3 s8:=g4.trans (E.gr.trans (F6.gr.trans F8.gr))
 have SJ:ay 6 (Z (.ptr u.size 0)) s8.get=some (AP q.cX):=by
  simp only[ay,G.get b3 w.wf];rw[af (by simp[cP])];rfl
 have Su:ay 6 (Z (.ptr u.size 0)) X.get=some (AP q.cX):=by
  simp only[ay,(G.trans O).get b3 w.wf];rw[af (by simp[cP])];rfl
 have ne:=RM q.cX q.cX;rw[aK rfl]at ne;have Sk:=L8 (d+11) (h.gr j);have U:aa (Z (.ptr P 2)) X.get=some (J es.length):=ag (j.get o.st h.nE) rfl;have SM:=SA.lens;have SN:=E.rd.lens;obtain⟨P8,H,Sn⟩:=xo (d+10) (h.gr j).dk Sr (by omega);rw[O3 hv]at H;have g:=j.trans Sn;have Sv:aa (Z (.ptr P 0)) X.get=some (Z (.ptr p 0)):=ag (j.get o.st h.nE) rfl;have Sw:aa (Z (.ptr P 0)) P8.get=some (Z (.ptr p 0)):=ag (g.get o.st h.nE) rfl;have Sl:=yc (d+11) (hr.gr g) (by omega) (by have:=hK.tot;omega);have n:Gr s5 P8:=F6.gr.trans (F8.gr.trans (O.trans Sn));obtain⟨t,lp,SR⟩:=HO (d+9) (h.gr g) (hr.gr g) (g.get o.st h.nE) hK hv (SA.gr Sz (E.gr.trans n)) (λc C=>by have:=Sz c C;have:=(E.gr.trans n).2.1;omega) (E.rd.gr (λc C=>(E.new c C).2) n) (λc C=>by have:=(E.new c C).2;have:=n.2.1;omega);refine⟨t,?_,g.trans SR⟩;rw[M3];unfold f16;simp only[aH,Nat.reduceAdd]at e5 e6 e7 e8 e9 Sj Sk H Sl lp;generalize R (d+12)=r at*;simp[an,SZ,SB,ai,SO,SP,e4,SK,SL,e5,e6,Sx,Sy,e7,e8,e9,Sj,SJ,Su,ne,Sk,U,SM,SN,H,Sv,Sw,Sl,lp,wq,bD]
end
section
variable {s t u:St}{x y c o:S}{l:Bs}{bs os:Bs}{n i:Nat}
theorem KY(v:Int){n:Nat}(a:0<n)(b:n<2 ^ 62):∃k:Nat,k<n/\az .u64 (J v)=some (J6 (lV v:Nat))/\az .u64 (J n)=some (J6 (n:Nat))/\ah .rem (J6 (lV v:Nat)) (J6 (n:Nat))=some (J6 (k:Nat))/\az .i64 (J6 (k:Nat))=some (J k):=
 ⟨_,di _ a,by rw[aY,zw],by rw[aY,wrap64 _ (by omega)],jx .u64 _ _ a,by
  have:=di (lV v) a;rw[aY,fJ _ (by omega)]⟩
theorem Mg(a b:UInt8):ah .xor (J8 a.toNat) (J8 b.toNat)=some (J8 ((a ^^^ b).toNat)):=by
 have g:=a.toNat_lt;have h:=b.toNat_lt;have c:(BitVec.ofInt IntKind.u8.bits (a.toNat:Int)).toNat=a.toNat:=jW 8 _ (by simpa using g);have d:(BitVec.ofInt IntKind.u8.bits (b.toNat:Int)).toNat=b.toNat:=jW 8 _ (by simpa using h);have e:(a ^^^ b).toNat<256:=(a ^^^ b).toNat_lt
 have f:IntKind.u8.wrap ((BitVec.ofInt IntKind.u8.bits (a.toNat:Int) ^^^ BitVec.ofInt IntKind.u8.bits (b.toNat:Int)).toNat:Int)=((a ^^^ b).toNat:Int):=by
  rw[BitVec.toNat_xor,c,d,gx,<-UInt8.toNat_xor,eU e]
 simp only[ah,pH,bY];exact bw (λz=>some (J8 z)) f
theorem KT(f:s.wf)(h:s.get n=some (.mark (U l))){k:Nat}(e:k<l.length)(v:UInt8) :
 ∃p t,ar 1 (Z (.sl n 0 l.length (.grown 1))) (J k)=some p/\aa p s.get=some (J8 l[k].toNat)/\aj 1 p (J8 v.toNat) s=some (tt,t)/\t.wf/\t.size=s.size/\(∀c,c≠n->t.get c=s.get c)/\RB t (.sl n 0 l.length (.grown 1)) (l.set k v):=by
 obtain⟨p,a,g⟩:=KR h (n:=(k:Int)) rfl (aU e);have j:nH (J (k:Int)) l.length=some k:=by simp[nH,e]
 have o:p=Z (.ptr n (0+k*1)):=by
  simp only[ar,j,jD]at a;exact a.symm
 have i:aQ (U l) (0+k*1) [.int .u8 v.toNat]=U (l.set k v):=by
  rw[a7,dZ];show(U l).set k _=_
  simp[U,uB]
 have b:(V.s (.int .u8 (v.toNat:Int))).cells.length=1/\0+k*1+1<=(U l).length:=⟨rfl,by rw[pe];omega⟩;refine⟨p,s.set n (.K false (U (l.set k v))),a,g,?_,St.wf_set f (f.lt h) _,by simp,λc b=>St.bO b,?_⟩
 ·subst o;have d:(V.s (.int .u8 (v.toNat:Int))).cells=[.int .u8 (v.toNat:Int)]:=rfl;simp only[aj,h];rw[af b,d,i]
 ·have m:(l.set k v).length=l.length:=iU;refine⟨by simp,.inr ⟨n,0,.grown 1,false,U (l.set k v),by rw[m],St.dh,by simp,?_⟩,rfl⟩;rw[ek];exact b8 (by simp)
theorem RW(h:RB s x bs):Mx s x (U bs):=by
 show Rd 1 s x (U bs).length (U bs)
 rw[pe];exact h
theorem LL(d:Nat)(e:s.wf):∃t,R (d+1) 11 [J 100000] s=some (Z (.ptr s.size 0),t)/\kX t s.size 100000 .av []/\Gr s t:=by
 obtain⟨t,b⟩:=aZ (s.push (.K true [.int .i64 100000,.av]));have a:aO (aA [iz,.av] [(0,1,J 100000)])=some (.v (.agg [.int .i64 100000,.av])):=rfl;have c:aE s (b6 (.v (.agg [.int .i64 100000,.av])))=some (Z (.ptr s.size 0),t):=by rw[b];rfl
 have g:Gr s t:=by rw[b];exact Gr.push e _
 refine⟨t,?_,⟨g.wf,by rw[b];exact St.ec,Ow.nil 3 t,λh=>by cases h⟩,g⟩;rw[MY];unfold f11;simp[a,c]
theorem N5(g:bs.length<=4000)(h:os.length<=4000)(ls:List eG)(N k:Nat):Rp (sY ls bs os N k):=by
 have d:=nW (k:=1) (by omega) (by omega);have e:bp 1≠fF:=kT 1;unfold sY;split
 ·refine⟨λk f c => ?_,show dL [fF]=[fF] by decide,by simp,?_⟩
  ·match k,c with
   | 0,c=>cases c;exact⟨mI,kU,by show lU fF 0 _=_;rw[lU,af rfl],show fF.length<=20 by decide⟩
  ·simp[lW];omega
 ·refine⟨λk f c => ?_,show dL [fF,bp 1]=[fF,bp 1] by decide,by simp,?_⟩
  ·match k,c with
   | 0,c=>cases c;exact⟨mI,kU,qJ,show fF.length<=20 by decide⟩
   | 1,c=>cases c;exact⟨d,qN,y3,show(bp 1).length<=20 by decide⟩
  ·simp[lW];omega
theorem Lf{q:gJ}{N c d:Nat}{j k:S}(z:N<=bs.length)(hid:q.l.all (dN os)=true) :
 Ld q.l N (ib [⟨fF,c,j,U bs,0⟩,⟨bp 1,d,k,U os,0⟩])=(sY q.l (bs.take N) os N 0).map NU:=by
 have g:¬bp 1=fF:=kT 1;have o:¬fF=bp 1:=λh=>g h.symm
 have ut:(U bs).take N=U (bs.take N):=by simp[U]
 have u:(U (bs.take N)).length=N:=by rw[pe,bb];omega
 have e:∀a∈q.l,a.i=1:=λa t=>by
  have:=e6.1 hid a t;unfold dN at this;rw[aM]at this;exact fL this.1
 have n:Cq fF (IK fF N (ib [⟨fF,c,j,U bs,0⟩,⟨bp 1,d,k,U os,0⟩]))=[⟨fF,U (bs.take N),N⟩,⟨bp 1,U os,0⟩]:=by
  simp only[Cq,IK,wZ,eE,jz,vw,af,ae g,ut,u]
 have x:kB q.l fF=true:=by simp[kB]
 have y:kB q.l (bp 1)=decide (q.l≠[]):=by
  unfold kB;have:(bp 1 == fF)=false:=by simpa using g
  rw[this,Ed];cases w:q.l with
  |nil=>rfl
  |cons a r=>
   have:a.i.toNat=1:=by rw[e a (by rw[w];simp)];rfl
   simp[this]
 unfold Ld;rw[n];simp only[Ep,List.filter_nil,x,y,bY];unfold sY;by_cases h:q.l=[]
 ·simp[h,NU]
 ·simp[h,NU]
theorem Hi(d:Nat)(SX:s.wf)(ht:jb s)(S0:RB s x bs)(C:∀c,own x=some c->c<s.size)(ho:RB s o os)(u:∀c,own o=some c->c<s.size)(S2:bs.length<=3800)(S6:os.length<=200)(k:Nat)(hk:k<2) :
 ∃t,sQ (R (d+14)) 8192 [Z x,Z o,Z c,J k] s=some (.normal [Z c,Z o,Z c,J ((k+1:Nat):Int)],t)/\Gr s t:=by
 have Sr:=SX.lt ht;have SW:(k:Int)<2:=by omega
 have w1:IntKind.i64.wrap ((k:Int)+1)=((k+1:Nat):Int):=by rw[aw _ (by omega) (by omega)];omega
 have hL:¬bp 1=fF:=kT 1;have Ss:¬fF=bp 1:=λh=>hL h.symm
 obtain⟨s1,e1,k1,g1⟩:=IP (room:=100000) (d+13) SX (by omega) (by omega);obtain⟨s2,e2,r2,g2⟩:=LL (d+13) g1.wf;obtain⟨m,S4⟩:=aZ (s.size);obtain⟨i,hi⟩:=aZ (s.size+1);obtain⟨p,hp⟩:=aZ (s1.size);rw[<-hi]at e1;rw[<-hi,<-S4]at k1;rw[<-hp]at e2 r2;have k2:=k1.gr g2;have S3:i<s1.size:=k1.Cx.1;have S5:m<s1.size:=k1.Cx.2.1;have z2:=g2.2.1;have SO:p<s2.size:=r2.pl;have H:=g1.trans g2;have Su:RB s2 x bs:=S0.gr C H;have Sz:RB s2 o os:=ho.gr u H;have np:lu .p (Z (.ptr i 0)) (Z .c9)=some (B false):=rfl;have S8:=H.2.1;obtain⟨x1,f1,s3,e3,k3,z3,o3,n3,Sm⟩:=sO (d+11) k2 ⟨λf y=>(by cases y),by simp⟩ (λf y=>(by cases y)) mI (RW Su) (λc g=>by have:=C c g;omega) (λe=>by have:=C _ e;omega) (by rw[pe];simp[tot];omega) (by rw[pe];omega);have SL:RB s3 o os:=Sz.keep λc g=>o3 c (by have:=u c g;omega) (by have:=u c g;omega)
 obtain⟨x2,f2,s4,e4,k4,z4,o4,n4,Sn⟩:=sO (d+11) k3 ⟨λf y=>by
  rw[dD,df]at y;subst y;show fF.length<=1000;decide,by simp⟩ (λf y=>by
  rw[dD,df]at y;subst y;exact Ss) (nW (k:=1) (by omega) (by omega)) (RW SL) (λc g=>by have:=u c g;omega) (λe=>by have:=u _ e;omega) (by rw[pe];simp[tot];omega) (by rw[pe];omega)
 rw[dD,zN]at k4;have n:∀c,c<s2.size->c≠m->s4.get c=s2.get c:=λc g Sw=>by rw[o4 c (by omega) Sw,o3 c g Sw]
 have Sv:RB s4 x bs:=Su.keep λc g=>n c (by have:=C c g;omega) (by have:=C c g;omega)
 have SM:RB s4 o os:=Sz.keep λc g=>n c (by have:=u c g;omega) (by have:=u c g;omega)
 have r4:kX s4 p 100000 .av []:=r2.keep k4.wf (n p SO (by omega)) λc g=>by cases g
 have SD:=Sv.str;obtain⟨y5,s5,e5,r5,z5,o5,n5⟩:=tw (nm:=fF) (b:=bs) (d+12) r4 (by simp) (λz hz=>by cases hz) (λz hz=>by cases hz) kU (by decide) (by simp[lW];omega) (by omega);rw[dD]at r5;have S1:RB s5 x bs:=Sv.keep λc g=>o5 c (by have:=C c g;omega) (by have:=C c g;omega)
 have SN:RB s5 o os:=SM.keep λc g=>o5 c (by have:=u c g;omega) (by have:=u c g;omega)
 have SE:=SN.str
 obtain⟨y6,s6,e6,r6,z6,o6,n6⟩:=tw (nm:=bp 1) (b:=os) (d+12) r5 (by simp) (λz hz=>by
  rw[df]at hz;subst hz;exact Ss) (λz hz=>by
  rw[df]at hz;subst hz;show Op.bytesLess fF (bp 1)=true;decide) qN (by decide) (by simp[lW];omega) (by omega)
 rw[zN]at r6;have j:∀c,c<s4.size->c≠p->s6.get c=s4.get c:=λc g T=>by rw[o6 c (by omega) T,o5 c g T]
 have SK:=k4.Cx;have Sx:=SK.2.2;have V:=Sx ⟨fF,f1,x1,U bs,0⟩ (by simp);have Y:=Sx ⟨bp 1,f2,x2,U os,0⟩ (by simp);dsimp only at V Y
 have k6:Dk s6 i m 100000 [⟨fF,f1,x1,U bs,0⟩,⟨bp 1,f2,x2,U os,0⟩]:=k4.qL r6.wf (by omega) (j i (by omega) (by omega)) (j m (by omega) (by omega)) λf y=>by
  rw[cq,df]at y;rcases y with rfl | rfl
  ·exact⟨j f1 V.1 (by omega),λc g=>j c (V.2 c g) (by have:=Sm c g;omega)⟩
  ·exact⟨j f2 Y.1 (by omega),λc g=>j c (Y.2 c g) (by have:=Sn c g;omega)⟩
 obtain⟨SF,w⟩:=aZ ([⟨fF,f1,x1,U bs,0⟩,⟨bp 1,f2,x2,U os,0⟩]:List Fl);rw[<-w]at k6;have SB:ib SF=[⟨fF,U bs,0⟩,⟨bp 1,U os,0⟩]:=by rw[w];rfl
 obtain⟨ρ,SC⟩:=aZ (λc=>if c=i\/c=m\/c=f1\/c=f2\/own x1=some c\/own x2=some c then 0 else 9:Nat->Nat);have G:∀c,(c=i\/c=m\/c=f1\/c=f2\/own x1=some c\/own x2=some c)->ρ c=0:=λc g=>by rw[SC];exact af g
 have Q:∀c,¬(c=i\/c=m\/c=f1\/c=f2\/own x1=some c\/own x2=some c)->ρ c=9:=λc g=>by rw[SC];exact ae g
 have O:∀c,c<s.size->ρ c=9:=λc g=>Q c λh=>by
  rcases h with h | h | h | h | h | h
  ·omega
  ·omega
  ·omega
  ·omega
  ·have:=Sm c h;omega
  ·have:=Sn c h;omega
 have SR:ρ p=9:=Q p λh=>by
  rcases h with h | h | h | h | h | h
  ·omega
  ·omega
  ·omega
  ·omega
  ·have:=Sm p h;omega
  ·have:=Sn p h;omega
 have ry:∀c,own y6=some c->ρ c=9:=λc g=>Q c λh=>by
  have h6:=n6 c g;rcases h with h | h | h | h | h | h
  ·omega
  ·omega
  ·omega
  ·omega
  ·have:=V.2 c h;omega
  ·have:=Y.2 c h;omega
 have SP:jb s6:=by
  show s6.get 0=_
  rw[j 0 (by omega) (by omega),n 0 (by omega) (by omega),H.2.2 0 Sr];exact ht
 obtain⟨⟨ik,N0⟩,Sk⟩:∃r,r=fV bs:=⟨_,rfl⟩;obtain⟨SA,SZ,Sy,SJ⟩:=vT Sk.symm;obtain⟨es,I⟩:=aZ (ik.take (l4 j4 ik));obtain⟨q,hq⟩:=aZ (wE j4 ik);obtain⟨N,hN⟩:=aZ ((bj es).length)
 have S:N<=bs.length:=by
  have h1:=j3 ik (l4 j4 ik);rw[<-I,<-hN]at h1;have h2:=bw List.length SA;rw[bb]at h2;omega
 have E:∀c,c<s.size->s6.get c=s.get c:=λc g=>by
  rw[j c (by omega) (by omega),n c (by omega) (by omega),H.2.2 c g]
 have X:=H7 (ρ:=ρ) (bs:=bs) (other:=os) (d+1) k6 (by
  rw[SB];refine⟨λv hv SQ => ?_,λh=>by simp[vu]at h⟩;rw[cq,df]at hv;rcases hv with rfl | rfl
  ·rfl
  ·exact absurd SQ hL) (by
  rw[SB];refine⟨λv hv => ?_,⟨bp 1,U os,0⟩,by simp,rfl,rfl⟩;rw[cq,df]at hv;rcases hv with rfl | rfl
  ·exact .inl rfl
  ·exact .inr rfl) (by rw[w];simp) (G i (.inl rfl)) (G m (.inr (.inl rfl))) (λf y=>by
  rw[w,cq,df]at y;rcases y with rfl | rfl
  ·exact⟨G f1 (by simp),λc g=>G c (.inr (.inr (.inr (.inr (.inl g)))))⟩
  ·exact⟨G f2 (by simp),λc g=>G c (.inr (.inr (.inr (.inr (.inr g)))))⟩) (by rw[O 0 Sr];decide) SP (by omega) (by omega) Sk.symm I hq hN S (λe he=>(Sy e he).2) SJ
 have hid:∀b,q.l.all (dN os)=b->b=true\/b=false:=λb _=>by cases b<;>simp
 have Sl:fF=[108,111,103]:=rfl;have Sp:bp 1=[115,49]:=by decide
 rcases hid _ rfl with hall | hall
 ·obtain⟨SV,D,SG,s7,e7,h7,v7,⟨SH,SY⟩,F⟩:=X.1 hall;have z7:=F.sz;have Sj:p<s6.size:=r6.pl;have r7:kX s7 p 100000 y6 [⟨fF,bs,0⟩,⟨bp 1,os,0⟩]:=r6.keep h7.nE (F.kp p Sj (by rw[SR];decide)) λc g=>F.kp c (r6.xl g) (by rw[ry c g];decide)
  obtain⟨P,lx,x',s8,e8,r8,R8,z8,o8⟩:=(x7 (other:=os) (d+5) r7 (by omega) (by omega) Sk.symm I hq hN S).1 hall
  have h8:bU SV s8 D 100000 SG es q es.length:=h7.keep r8.wf z8 λc g hr=>by
   have T:c≠p:=λe=>by rw[e,F.ro p Sj,SR]at hr;omega
   have SI:own y6≠some c:=λe=>by rw[F.ro c (r6.xl e),ry c e]at hr;omega
   exact o8 c g T SI
  obtain⟨s9,e9,g9⟩:=LZ (d+1) h8 r8 R8 (N5 (by rw[bb];omega) (by omega) q.l N 0) (by rw[v7,w];exact Lf S hall) λe he=>by
   rw[I]at he;have:=j9 (Sy e (nc he)).1;omega
  rw[SH]at e9;refine⟨s9,?_,g9.wf,?_,λc g => ?_⟩
  ·unfold sQ;rw[Sl]at e3 e5;rw[Sp]at e4 e6;have S7:xN .p (Z (.ptr D.p 0)) (Z .c9)=some (B true):=rfl;simp only[aH,Nat.reduceAdd]at e1 e2 e3 e4 e5 e6 e7 e8 e9;generalize R (d+14)=rr at*;simp[SW,e1,e2,np,e3,e4,SD,e5,SE,e6,e7,e8,ai,e9,w1,bD]
  ·have:=g9.2.1;omega
  ·rw[g9.2.2 c (by omega),o8 c (by omega) (by omega) (λe=>by have:=n6 c e;omega),F.kp c (by omega) (by rw[O c g];decide)];exact E c g
 ·obtain⟨s7,e7,SS,z7,o7⟩:=X.2 hall;have Sj:p<s6.size:=r6.pl;have r7:kX s7 p 100000 y6 [⟨fF,bs,0⟩,⟨bp 1,os,0⟩]:=r6.keep SS (o7 p Sj (by rw[SR];decide)) λc g=>o7 c (r6.xl g) (by rw[ry c g];decide)
  obtain⟨s8,e8,SU,z8,o8⟩:=(x7 (other:=os) (d+5) r7 (by omega) (by omega) Sk.symm I hq hN S).2 hall;refine⟨s8,?_,SU,by omega,λc g => ?_⟩
  ·unfold sQ;rw[Sl]at e3 e5;rw[Sp]at e4 e6;simp only[aH,Nat.reduceAdd]at e1 e2 e3 e4 e5 e6 e7 e8;generalize R (d+14)=rr at*;simp[SW,e1,e2,np,e3,e4,SD,e5,SE,e6,e7,e8,ai,w1,bD]
  ·rw[o8 c (by omega) (by omega) (λe=>by have:=n6 c e;omega),o7 c (by omega) (by rw[O c g];decide)];exact E c g
theorem Lu(d:Nat)(E:s.wf)(D:jb s)(h:RB s x bs)(A:∀c,own x=some c->c<s.size)(G:RB s o os)(i:∀c,own o=some c->c<s.size){cs:Bs}(F:RB s c cs)(B:∀b,own c=some b->b<s.size)(m:bs.length<=3800)(w:os.length<=200)(n:cs.length<=3800) :
 ∃t,loops (sQ (R (d+14)) 8192) 8192 [Z x,Z o,Z c,J 0] s=some (.exit 0 [],t)/\Gr s t:=by
 obtain⟨j,L,K,rfl,g⟩:=aL (f:=sQ (R (d+14)) 8192)
  (λq v u=>∃(k:Nat) (y:S) (ys:Bs),q+k=2/\v=[Z y,Z o,Z c,J k]/\Gr s u/\RB s y ys/\(∀b,own y=some b->b<s.size)/\ys.length<=3800)
  (λj u=>j = .exit 0 []/\Gr s u) (by
   rintro q v u ⟨k,y,ys,N,rfl,a,I,l,C⟩;by_cases r:k<2
   ·left;have z:jb u:=by show u.get 0=_;rw[a.2.2 0 (E.lt D)];exact D
    have P:=a.2.1;obtain⟨t,e,g⟩:=Hi (c:=c) d a.wf z (I.gr l a) (λb h=>by have:=l b h;omega) (G.gr i a) (λb h=>by have:=i b h;omega) C w k r;exact⟨_,t,q-1,e,by omega,k+1,c,cs,by omega,rfl,a.trans g,F,B,n⟩
   ·right;refine⟨.exit 0 [],u,?_,(λv H=>by cases H),rfl,a⟩;have p:k=2:=(by omega);subst p;have M:¬(2:Int)<2:=(by omega);unfold sQ;generalize R (d+14)=O;simp) 8192 2 _ s ⟨0,x,bs,by omega,rfl,Gr.refl E,h,A,m⟩ (by omega)
 exact⟨L,K,g⟩
theorem OI(d:Nat)(Sl:s.wf)(ht:jb s)(Sj:RB s x bs)(v:∀c,own x=some c->c<s.size){is:List Int}(hy:Rd 1 s y is.length (Qw is))(Q:∀c,own y=some c->c<s.size)(at_:Int)(D:UInt8)(ho:RB s o os)(w:∀c,own o=some c->c<s.size) :
 ∃t,R (d+15) 3 [Z x,Z y,J at_,J8 D.toNat,Z o] s=some (B true,t):=by
 rw[PF];unfold f3;have I:=Sj.r9;have lo:=ho.r9;have b:=λu=>p4 (d+13) u
 simp only[aH,Nat.reduceAdd]at b;by_cases h1:300<bs.length
 ·refine⟨s,?_⟩;have g:(300:Int)<(bs.length:Int):=by omega
  generalize R (d+14)=T,(bs.length:Int)=L at*;simp[I,g,b]
 have g:¬(300:Int)<(bs.length:Int):=by omega
 by_cases h2:200<os.length
 ·refine⟨s,?_⟩;have E:(200:Int)<(os.length:Int):=by omega
  generalize R (d+14)=T,(bs.length:Int)=L,(os.length:Int)=X at*;simp[I,g,lo,E,b]
 have E:¬(200:Int)<(os.length:Int):=by omega
 obtain⟨Sk,P,hl⟩:=HD is;have Sm:=HC is;obtain⟨z,s1,G,H⟩:=LQ (d+13) Sl hy Q;generalize nA is=l at*
 obtain⟨C,h,Y⟩:=B3 (d+7) H.gr.wf H.rd (λc a=>(H.new c a).2) P (λe he=>by
  have:=j9 (e6.1 Sk e he);omega) (by omega) (by omega)
 have q:yw l=(bj l,0):=by unfold yw;rw[af Sk,af (by omega)]
 rw[q]at h;generalize bj l=F at*;have i:=H.gr.trans Y;obtain⟨n,hn⟩:=aZ (C.size);obtain⟨s3,f⟩:=aZ (C.push (.mark (U F)));have A:aE C (zg (Z (.str F)))=some (Z (.sl n 0 F.length (.grown 1)),s3):=by rw[f,hn];rfl
 have N:Gr C s3:=by rw[f];exact Gr.push Y.wf _
 have b3:s3.get n=some (.mark (U F)):=by rw[f,hn];exact St.ec
 have z3:s3.size=C.size+1:=by rw[f];simp
 have ls:aG (Z (.sl n 0 F.length (.grown 1)))=some (J F.length):=rfl;have j:=i.trans N;have Sp:=j.2.1;have Sn:=i.2.1;have O:=Sl.lt ht
 have main:∀(t:St) (cs:Bs),t.wf->t.size=s3.size->(∀c,c≠n->t.get c=s3.get c)->RB t (.sl n 0 F.length (.grown 1)) cs->cs.length<=3800 →
  ∃t',loops (sQ (R (d+14)) 8192) 8192 [Z x,Z o,Z (.sl n 0 F.length (.grown 1)),J 0] t=some (.exit 0 [],t'):=by
  intro t cs wt zt kt rt ct;have S:∀c,c<s.size->t.get c=s.get c:=λc a=>by rw[kt c (by omega),j.2.2 c a]
  obtain⟨t',e,_⟩:=Lu d wt (by show t.get 0=_;rw[S 0 O];exact ht) (Sj.keep λc a=>S c (v c a)) (λc a=>by have:=v c a;omega) (ho.keep λc a=>S c (w c a)) (λc a=>by have:=w c a;omega) rt (λc a=>by cases a;omega) (by omega) (by omega) ct;exact⟨t',e⟩
 by_cases h0:F=[]
 ·have m:F.length=0:=by rw[h0];rfl
  have M:¬(0:Int)<(F.length:Int):=by omega
  obtain⟨K,e4⟩:=main s3 F N.wf rfl (λc _=>rfl) ⟨by simp,.inl ⟨m,.inr (.inr ⟨n,0,.grown 1,by rw[m]⟩)⟩,rfl⟩ (by omega);refine⟨K,?_⟩;simp only[aH,Nat.reduceAdd]at G h;clear main b;have b:=p4 (d+13) K;simp only[aH,Nat.reduceAdd]at b;generalize R (d+14)=T,(bs.length:Int)=L,(os.length:Int)=X,(F.length:Int)=FL at*;simp[I,g,lo,E,G,h,ai,A,ls,M,e4,b]
 ·have r:0<F.length:=ry.2 h0;have M:(0:Int)<(F.length:Int):=by omega
  obtain⟨k,hk,m1,m2,m3,m4⟩:=KY at_ r (by omega);obtain⟨p,K,ix,ld,V,W,z4,k4,r4⟩:=KT N.wf b3 hk (F[k] ^^^ D);have xr:=Mg F[k] D;obtain⟨s5,e5⟩:=main K _ W z4 k4 r4 (by rw[iU];omega);refine⟨s5,?_⟩;simp only[aH,Nat.reduceAdd]at G h;clear main b;have b:=p4 (d+13) s5;simp only[aH,Nat.reduceAdd]at b;generalize R (d+14)=T,(bs.length:Int)=L,(os.length:Int)=X,((F[k] ^^^ D).toNat:Int)=XV,((F[k].toNat:Nat):Int)=FK,(D.toNat:Int)=TB,(F.length:Int)=FL,(k:Int)=KK,((lV at_:Nat):Int)=RK at*;simp[I,g,lo,E,G,h,ai,A,ls,M,m1,m2,m3,m4,ix,ld,xr,V,e5,b]
abbrev wT:St:=Cr 2 .u64 BR
theorem jb.push(h:jb s)(a:s.wf)(b:er):jb (s.push b):=(Gr.push a b).get h a
theorem Qb:jb wT:=HZ _ _ _
theorem Qc(a b c:er):jb (((wT.push a).push b).push c):=by
 have w0:wT.wf:=St.bo St.rl _;exact((Qb.push w0 a).push (St.bo w0 _) b).push (St.bo (St.bo w0 _) _) c
end
end Go.Proofs.YtbohejffelipoaaGreatDoor
namespace Go.Proofs
open Go.Shelf
def Tryz.sZ:Go.Shelf.Ren:=⟨λ | 156=>181 | 165=>220 | 166=>221 | 169=>222 | 240=>249 | 241=>250 | 276=>268 | 277=>269 | n=>n,λ | 31=>69 | 9=>9 | 3=>3 | 4=>4 | 0=>0 | 20=>20 | 72=>265 | 76=>156 | 70=>263 | 37=>22 | 75=>155 | 127=>289 | 164=>307 | 5=>5 | 80=>267 | n=>n,λ | n=>n⟩
theorem Tryz.E0:Go.Proofs.Lays.n156 Tryz.prog Tryz.sZ:={
 mixed:=by kernel_rfl
 f156:=Tryz.func181.trans (congrArg some (by kernel_rfl))
 f165:=Tryz.func220.trans (congrArg some (by kernel_rfl))
 f166:=Tryz.func221.trans (congrArg some (by kernel_rfl))
 f169:=Tryz.func222.trans (congrArg some (by kernel_rfl))
 f240:=Tryz.func249.trans (congrArg some (by kernel_rfl))
 f241:=Tryz.func250.trans (congrArg some (by kernel_rfl))
 f276:=Tryz.func268.trans (congrArg some (by kernel_rfl))
 f277:=Tryz.func269.trans (congrArg some (by kernel_rfl))
 t0:=Tryz.underlying0
 a0:=Tryz.isAgg0
 z0:=Tryz.sizeOf0
 v0:=Tryz.zeroValue0
 t3:=Tryz.underlying3
 a3:=Tryz.isAgg3
 z3:=Tryz.sizeOf3
 v3:=Tryz.zeroValue3
 t4:=Tryz.underlying4
 a4:=Tryz.isAgg4
 z4:=Tryz.sizeOf4
 v4:=Tryz.zeroValue4
 t9:=Tryz.underlying9
 a9:=Tryz.isAgg9
 z9:=Tryz.sizeOf9
 v9:=Tryz.zeroValue9
 t20:=Tryz.underlying20
 a20:=Tryz.isAgg20
 z20:=Tryz.sizeOf20
 v20:=Tryz.zeroValue20
 t31:=Tryz.underlying69
 a31:=Tryz.isAgg69
 z31:=Tryz.sizeOf69
 v31:=Tryz.zeroValue69
 t37:=Tryz.underlying22
 a37:=Tryz.isAgg22
 z37:=Tryz.sizeOf22
 v37:=Tryz.zeroValue22
 t70:=Tryz.underlying263
 a70:=Tryz.isAgg263
 z70:=Tryz.sizeOf263
 v70:=Tryz.zeroValue263
 t72:=Tryz.underlying265
 a72:=Tryz.isAgg265
 z72:=Tryz.sizeOf265
 v72:=Tryz.zeroValue265
 t75:=Tryz.underlying155
 a75:=Tryz.isAgg155
 z75:=Tryz.sizeOf155
 v75:=Tryz.zeroValue155
 t76:=Tryz.underlying156
 a76:=Tryz.isAgg156
 z76:=Tryz.sizeOf156
 v76:=Tryz.zeroValue156
 t127:=Tryz.underlying289
 a127:=Tryz.isAgg289
 z127:=Tryz.sizeOf289
 v127:=Tryz.zeroValue289
 t164:=Tryz.underlying307
 a164:=Tryz.isAgg307
 z164:=Tryz.sizeOf307
 v164:=Tryz.zeroValue307 }
theorem Tryz.lp:Builder.Extra Tryz.prog Tryz.sZ:={
 sizeBuilder:=by kernel_rfl
 liesBuilder:=by kernel_rfl
 t5:=Tryz.underlying5
 a5:=Tryz.isAgg5
 z5:=Tryz.sizeOf5
 v5:=Tryz.zeroValue5
 infoByte:=by kernel_rfl
 cellsByte:=by kernel_rfl
 sizeByte:=by kernel_rfl
 neB5:=by decide }
open Go.RowKit in
theorem Tryz.strings_Join_none(a:Option Addr)(c:Nat)(b:ByteArray)(w:World) :
 Calls Tryz.prog 181 #[.slice a 0 c,.string b] w λe w'=>e = .returned (.string ⟨#[]⟩)/\w'=w:=Any.strings_Join_none Tryz.E0 Tryz.lp a c b w
open Go.RowKit in
theorem Tryz.strings_Join(g o c:Nat)(xs:List ByteArray)(b:ByteArray)(w:World)(a:∀(j:Nat) x,xs[j]? = some x->w.cell? ⟨g,o+j,none⟩=some (.string x))(h:g<w.heap.size)(i:xs.length<=140737488355328)(d:xs.length<=c)(f:(Lib.join (xs.map (·.data.toList)) b.data.toList).length<=140737488355328) :
 Calls Tryz.prog 181 #[.slice (some ⟨g,o,none⟩) xs.length c,.string b] w λe w'=>e = .returned (.string ⟨(Lib.join (xs.map (·.data.toList)) b.data.toList).toArray⟩)/\Below w.heap.size w w':=Any.strings_Join Tryz.E0 Tryz.lp g o c xs b w a h i d f
def Tryz.y8:Go.Shelf.Ren:=⟨λ | 171=>111 | 243=>150 | 246=>194 | 283=>229 | 284=>230 | 285=>231 | 286=>232 | 129=>211 | 317=>254 | 318=>255 | 319=>256 | 320=>257 | 337=>270 | 338=>271 | n=>n,λ | 3=>3 | 9=>9 | 2=>2 | 4=>4 | 171=>277 | 0=>0 | 53=>123 | 37=>22 | 5=>5 | 173=>279 | 212=>295 | 51=>45 | 20=>20 | 213=>296 | 46=>29 | 232=>312 | 233=>313 | n=>n,λ | 17=>2 | 18=>6 | 19=>7 | n=>n⟩
theorem Tryz.KL:Go.Proofs.LaysM.n171 Tryz.prog Tryz.y8:={
 mixed:=by kernel_rfl
 f129:=Tryz.func211.trans (congrArg some (by kernel_rfl))
 f171:=Tryz.func111.trans (congrArg some (by kernel_rfl))
 f243:=Tryz.func150.trans (congrArg some (by kernel_rfl))
 f246:=Tryz.func194.trans (congrArg some (by kernel_rfl))
 f283:=Tryz.func229.trans (congrArg some (by kernel_rfl))
 f284:=Tryz.func230.trans (congrArg some (by kernel_rfl))
 f285:=Tryz.func231.trans (congrArg some (by kernel_rfl))
 f286:=Tryz.func232.trans (congrArg some (by kernel_rfl))
 f317:=Tryz.func254.trans (congrArg some (by kernel_rfl))
 f318:=Tryz.func255.trans (congrArg some (by kernel_rfl))
 f319:=Tryz.func256.trans (congrArg some (by kernel_rfl))
 f320:=Tryz.func257.trans (congrArg some (by kernel_rfl))
 f337:=Tryz.func270.trans (congrArg some (by kernel_rfl))
 f338:=Tryz.func271.trans (congrArg some (by kernel_rfl))
 t0:=Tryz.underlying0
 a0:=Tryz.isAgg0
 z0:=Tryz.sizeOf0
 v0:=Tryz.zeroValue0
 t2:=Tryz.underlying2
 a2:=Tryz.isAgg2
 z2:=Tryz.sizeOf2
 v2:=Tryz.zeroValue2
 t3:=Tryz.underlying3
 a3:=Tryz.isAgg3
 z3:=Tryz.sizeOf3
 v3:=Tryz.zeroValue3
 t4:=Tryz.underlying4
 a4:=Tryz.isAgg4
 z4:=Tryz.sizeOf4
 v4:=Tryz.zeroValue4
 t5:=Tryz.underlying5
 a5:=Tryz.isAgg5
 z5:=Tryz.sizeOf5
 v5:=Tryz.zeroValue5
 t9:=Tryz.underlying9
 a9:=Tryz.isAgg9
 z9:=Tryz.sizeOf9
 v9:=Tryz.zeroValue9
 t20:=Tryz.underlying20
 a20:=Tryz.isAgg20
 z20:=Tryz.sizeOf20
 v20:=Tryz.zeroValue20
 t37:=Tryz.underlying22
 a37:=Tryz.isAgg22
 z37:=Tryz.sizeOf22
 v37:=Tryz.zeroValue22
 t46:=Tryz.underlying29
 a46:=Tryz.isAgg29
 z46:=Tryz.sizeOf29
 v46:=Tryz.zeroValue29
 t51:=Tryz.underlying45
 a51:=Tryz.isAgg45
 z51:=Tryz.sizeOf45
 v51:=Tryz.zeroValue45
 t53:=Tryz.underlying123
 a53:=Tryz.isAgg123
 z53:=Tryz.sizeOf123
 v53:=Tryz.zeroValue123
 t171:=Tryz.underlying277
 a171:=Tryz.isAgg277
 z171:=Tryz.sizeOf277
 v171:=Tryz.zeroValue277
 t173:=Tryz.underlying279
 a173:=Tryz.isAgg279
 z173:=Tryz.sizeOf279
 v173:=Tryz.zeroValue279
 t212:=Tryz.underlying295
 a212:=Tryz.isAgg295
 z212:=Tryz.sizeOf295
 v212:=Tryz.zeroValue295
 t213:=Tryz.underlying296
 a213:=Tryz.isAgg296
 z213:=Tryz.sizeOf296
 t232:=Tryz.underlying312
 a232:=Tryz.isAgg312
 z232:=Tryz.sizeOf312
 v232:=Tryz.zeroValue312
 t233:=Tryz.underlying313
 a233:=Tryz.isAgg313
 z233:=Tryz.sizeOf313
 v233:=Tryz.zeroValue313
 g17:=by kernel_rfl
 g18:=by kernel_rfl
 g19:=by kernel_rfl
 i0:=by kernel_rfl
 i2:=by kernel_rfl
 i3:=by kernel_rfl
 i4:=by kernel_rfl
 i5:=by kernel_rfl
 i9:=by kernel_rfl
 i20:=by kernel_rfl
 i37:=by kernel_rfl
 i46:=by kernel_rfl
 i51:=by kernel_rfl
 i53:=by kernel_rfl
 i171:=by kernel_rfl
 i173:=by kernel_rfl
 i212:=by kernel_rfl
 i232:=by kernel_rfl
 i233:=by kernel_rfl
 m17:=by kernel_rfl
 m18:=by kernel_rfl
 m19:=by kernel_rfl }
open Go.RowKit Go.Sort Go.Lib in
theorem Tryz.strconv_Itoa(n:Int)(b : -9223372036854775808<=n)(c:n<=9223372036854775807)(w:World)(a:Lib.TabIs Tryz.prog w "internal/strconv.uint64pow10" .u64 Lib.pow10Tab) :
 Calls Tryz.prog 111 #[.int .i64 n] w λe w'=>e = .returned (.string ⟨(Lib.itoa n).toArray⟩)/\∃k os,w'=grow (w.drewN k) os:=Any.strconv_Itoa Tryz.KL n b c w a
def Tryz.BB:Go.Shelf.Ren:=⟨λ | 219=>248 | 217=>266 | 225=>263 | 224=>262 | 267=>267 | 266=>272 | 314=>273 | n=>n,λ | 9=>9 | 3=>3 | 4=>4 | 5=>5 | 46=>29 | 146=>310 | 51=>45 | n=>n,λ | 1=>5 | n=>n⟩
theorem Tryz.N8:Go.Proofs.Lays.n219 Tryz.prog Tryz.BB:={
 mixed:=by kernel_rfl
 f217:=Tryz.func266.trans (congrArg some (by kernel_rfl))
 f219:=Tryz.func248.trans (congrArg some (by kernel_rfl))
 f224:=Tryz.func262.trans (congrArg some (by kernel_rfl))
 f225:=Tryz.func263.trans (congrArg some (by kernel_rfl))
 f266:=Tryz.func272.trans (congrArg some (by kernel_rfl))
 f267:=Tryz.func267.trans (congrArg some (by kernel_rfl))
 f314:=Tryz.func273.trans (congrArg some (by kernel_rfl))
 t3:=Tryz.underlying3
 a3:=Tryz.isAgg3
 z3:=Tryz.sizeOf3
 v3:=Tryz.zeroValue3
 t4:=Tryz.underlying4
 a4:=Tryz.isAgg4
 z4:=Tryz.sizeOf4
 v4:=Tryz.zeroValue4
 t5:=Tryz.underlying5
 a5:=Tryz.isAgg5
 z5:=Tryz.sizeOf5
 v5:=Tryz.zeroValue5
 t9:=Tryz.underlying9
 a9:=Tryz.isAgg9
 z9:=Tryz.sizeOf9
 v9:=Tryz.zeroValue9
 t46:=Tryz.underlying29
 a46:=Tryz.isAgg29
 z46:=Tryz.sizeOf29
 v46:=Tryz.zeroValue29
 t51:=Tryz.underlying45
 a51:=Tryz.isAgg45
 z51:=Tryz.sizeOf45
 v51:=Tryz.zeroValue45
 t146:=Tryz.underlying310
 a146:=Tryz.isAgg310
 z146:=Tryz.sizeOf310
 v146:=Tryz.zeroValue310
 g1:=by kernel_rfl }
open Go.RowKit Go.Lib in
theorem Tryz.stringslite_Index_one(s:ByteArray)(c:UInt8)(w:World) :
 Calls Tryz.prog 248 #[.string s,.string ⟨#[c]⟩] w λe w'=>e = .returned (.int .i64 (Lib.indexByte s.data.toList c))/\w'=w:=Any.stringslite_Index_one Tryz.N8 s c w
def Tryz.BA:Go.Shelf.Ren:=⟨λ | 143=>247 | 219=>248 | 217=>266 | 225=>263 | 224=>262 | 267=>267 | 266=>272 | 314=>273 | n=>n,λ | 9=>9 | 3=>3 | 4=>4 | 5=>5 | 46=>29 | 146=>310 | 51=>45 | n=>n,λ | 1=>5 | n=>n⟩
theorem Tryz.N7:Go.Proofs.Lays.n143 Tryz.prog Tryz.BA:={
 mixed:=by kernel_rfl
 f143:=Tryz.func247.trans (congrArg some (by kernel_rfl))
 f217:=Tryz.func266.trans (congrArg some (by kernel_rfl))
 f219:=Tryz.func248.trans (congrArg some (by kernel_rfl))
 f224:=Tryz.func262.trans (congrArg some (by kernel_rfl))
 f225:=Tryz.func263.trans (congrArg some (by kernel_rfl))
 f266:=Tryz.func272.trans (congrArg some (by kernel_rfl))
 f267:=Tryz.func267.trans (congrArg some (by kernel_rfl))
 f314:=Tryz.func273.trans (congrArg some (by kernel_rfl))
 t3:=Tryz.underlying3
 a3:=Tryz.isAgg3
 z3:=Tryz.sizeOf3
 v3:=Tryz.zeroValue3
 t4:=Tryz.underlying4
 a4:=Tryz.isAgg4
 z4:=Tryz.sizeOf4
 v4:=Tryz.zeroValue4
 t5:=Tryz.underlying5
 a5:=Tryz.isAgg5
 z5:=Tryz.sizeOf5
 v5:=Tryz.zeroValue5
 t9:=Tryz.underlying9
 a9:=Tryz.isAgg9
 z9:=Tryz.sizeOf9
 v9:=Tryz.zeroValue9
 t46:=Tryz.underlying29
 a46:=Tryz.isAgg29
 z46:=Tryz.sizeOf29
 v46:=Tryz.zeroValue29
 t51:=Tryz.underlying45
 a51:=Tryz.isAgg45
 z51:=Tryz.sizeOf45
 v51:=Tryz.zeroValue45
 t146:=Tryz.underlying310
 a146:=Tryz.isAgg310
 z146:=Tryz.sizeOf310
 v146:=Tryz.zeroValue310
 g1:=by kernel_rfl }
open Go.RowKit Go.Lib in
theorem Tryz.strings_Index_one(s:ByteArray)(c:UInt8)(w:World) :
 Calls Tryz.prog 247 #[.string s,.string ⟨#[c]⟩] w λe w'=>e = .returned (.int .i64 (Lib.indexByte s.data.toList c))/\w'=w:=Any.strings_Index_one Tryz.N7 s c w
def Tryz.Bz:Go.Shelf.Ren:=⟨λ | 138=>246 | 195=>264 | 218=>265 | 143=>247 | 219=>248 | 217=>266 | 225=>263 | 224=>262 | 267=>267 | 266=>272 | 314=>273 | n=>n,λ | 9=>9 | 3=>3 | 4=>4 | 5=>5 | 0=>0 | 46=>29 | 146=>310 | 51=>45 | n=>n,λ | 1=>5 | n=>n⟩
theorem Tryz.N6:Go.Proofs.Lays.n138 Tryz.prog Tryz.Bz:={
 mixed:=by kernel_rfl
 f138:=Tryz.func246.trans (congrArg some (by kernel_rfl))
 f143:=Tryz.func247.trans (congrArg some (by kernel_rfl))
 f195:=Tryz.func264.trans (congrArg some (by kernel_rfl))
 f217:=Tryz.func266.trans (congrArg some (by kernel_rfl))
 f218:=Tryz.func265.trans (congrArg some (by kernel_rfl))
 f219:=Tryz.func248.trans (congrArg some (by kernel_rfl))
 f224:=Tryz.func262.trans (congrArg some (by kernel_rfl))
 f225:=Tryz.func263.trans (congrArg some (by kernel_rfl))
 f266:=Tryz.func272.trans (congrArg some (by kernel_rfl))
 f267:=Tryz.func267.trans (congrArg some (by kernel_rfl))
 f314:=Tryz.func273.trans (congrArg some (by kernel_rfl))
 t0:=Tryz.underlying0
 a0:=Tryz.isAgg0
 z0:=Tryz.sizeOf0
 v0:=Tryz.zeroValue0
 t3:=Tryz.underlying3
 a3:=Tryz.isAgg3
 z3:=Tryz.sizeOf3
 v3:=Tryz.zeroValue3
 t4:=Tryz.underlying4
 a4:=Tryz.isAgg4
 z4:=Tryz.sizeOf4
 v4:=Tryz.zeroValue4
 t5:=Tryz.underlying5
 a5:=Tryz.isAgg5
 z5:=Tryz.sizeOf5
 v5:=Tryz.zeroValue5
 t9:=Tryz.underlying9
 a9:=Tryz.isAgg9
 z9:=Tryz.sizeOf9
 v9:=Tryz.zeroValue9
 t46:=Tryz.underlying29
 a46:=Tryz.isAgg29
 z46:=Tryz.sizeOf29
 v46:=Tryz.zeroValue29
 t51:=Tryz.underlying45
 a51:=Tryz.isAgg45
 z51:=Tryz.sizeOf45
 v51:=Tryz.zeroValue45
 t146:=Tryz.underlying310
 a146:=Tryz.isAgg310
 z146:=Tryz.sizeOf310
 v146:=Tryz.zeroValue310
 g1:=by kernel_rfl }
open Go.RowKit Go.Lib in
theorem Tryz.strings_Count_one(s:ByteArray)(c:UInt8)(w:World) :
 Calls Tryz.prog 246 #[.string s,.string ⟨#[c]⟩] w λe w'=>e = .returned (.int .i64 (Lib.countByte s.data.toList c))/\w'=w:=Any.strings_Count_one Tryz.N6 s c w
def Tryz.xD:Go.Shelf.Ren:=⟨λ | 7=>83 | 10=>125 | n=>n,λ | 23=>81 | 26=>9 | 3=>87 | 28=>138 | 0=>0 | 27=>137 | 33=>93 | 4=>4 | n=>n,λ | n=>n⟩
theorem Tryz.Pb:Go.Proofs.SlLaysZ.n7 Tryz.prog Tryz.xD:={
 mixed:=by kernel_rfl
 f7:=⟨Tryz.f83.name,by decide,Tryz.func83.trans (congrArg some (by kernel_rfl))⟩
 f10:=⟨Tryz.f125.name,by decide,Tryz.func125.trans (congrArg some (by kernel_rfl))⟩
 t0:=Tryz.underlying0
 a0:=Tryz.isAgg0
 z0:=Tryz.sizeOf0
 v0:=Tryz.zeroValue0
 t4:=Tryz.underlying4
 a4:=Tryz.isAgg4
 z4:=Tryz.sizeOf4
 v4:=Tryz.zeroValue4
 t23:=Tryz.underlying81
 a23:=Tryz.isAgg81
 z23:=Tryz.sizeOf81
 v23:=Tryz.zeroValue81
 t26:=Tryz.underlying9
 a26:=Tryz.isAgg9
 z26:=Tryz.sizeOf9
 v26:=Tryz.zeroValue9
 t27:=Tryz.underlying137
 a27:=Tryz.isAgg137
 z27:=Tryz.sizeOf137
 v27:=Tryz.zeroValue137
 t28:=Tryz.underlying138
 a28:=Tryz.isAgg138
 z28:=Tryz.sizeOf138
 v28:=Tryz.zeroValue138
 t33:=Tryz.underlying93
 a33:=Tryz.isAgg93
 z33:=Tryz.sizeOf93
 v33:=Tryz.zeroValue93 }
def Tryz.tD:Go.Shelf.Ren:=⟨λ | 6=>82 | 8=>123 | 9=>124 | 11=>162 | 13=>164 | 12=>163 | 23=>210 | 24=>211 | 14=>201 | 15=>202 | 16=>203 | 17=>204 | 18=>205 | 19=>206 | 20=>207 | 21=>208 | 22=>209 | 25=>235 | 26=>236 | 27=>237 | 28=>238 | 29=>239 | 30=>240 | 31=>259 | n=>n,λ | 26=>9 | 28=>138 | 24=>69 | 0=>0 | 3=>3 | 37=>29 | 48=>45 | 50=>123 | 4=>4 | 40=>248 | 39=>247 | 45=>187 | 5=>5 | 9=>9 | 51=>281 | 55=>284 | 57=>298 | 58=>299 | 33=>93 | n=>n,λ | n=>n⟩
theorem Tryz.OZ:Go.Proofs.SlLaysZ.n6 Tryz.prog Tryz.tD:={
 mixed:=by kernel_rfl
 f6:=⟨Tryz.f82.name,by decide,Tryz.func82.trans (congrArg some (by kernel_rfl))⟩
 f8:=⟨Tryz.f123.name,by decide,Tryz.func123.trans (congrArg some (by kernel_rfl))⟩
 f11:=⟨Tryz.f162.name,by decide,Tryz.func162.trans (congrArg some (by kernel_rfl))⟩
 t0:=Tryz.underlying0
 a0:=Tryz.isAgg0
 z0:=Tryz.sizeOf0
 v0:=Tryz.zeroValue0
 t24:=Tryz.underlying69
 a24:=Tryz.isAgg69
 z24:=Tryz.sizeOf69
 v24:=Tryz.zeroValue69
 t26:=Tryz.underlying9
 a26:=Tryz.isAgg9
 z26:=Tryz.sizeOf9
 v26:=Tryz.zeroValue9
 t28:=Tryz.underlying138
 a28:=Tryz.isAgg138
 z28:=Tryz.sizeOf138
 v28:=Tryz.zeroValue138
 i26:=by kernel_rfl }
def Tryz.HV:Go.Shelf.Ren:=⟨λ | 6=>124 | 8=>164 | 9=>163 | 19=>210 | 20=>211 | 21=>201 | 22=>202 | 23=>203 | 24=>204 | 25=>205 | 26=>206 | 27=>207 | 28=>208 | 29=>209 | 36=>235 | 31=>236 | 32=>237 | 37=>238 | 38=>239 | 39=>240 | 41=>259 | n=>n,λ | 27=>69 | 29=>9 | 3=>3 | 32=>29 | 26=>69 | 0=>0 | 44=>45 | 46=>123 | 4=>4 | 36=>248 | 35=>247 | 41=>187 | 5=>5 | 9=>9 | 53=>281 | 57=>284 | 63=>298 | 64=>299 | n=>n,λ | n=>n⟩
theorem Tryz.Pf:Go.Proofs.SlLaysM.n6 Tryz.prog Tryz.HV:={
 mixed:=by kernel_rfl
 f6:=⟨Tryz.f124.name,by decide,Tryz.func124.trans (congrArg some (by kernel_rfl))⟩
 f8:=Tryz.func164.trans (congrArg some (by kernel_rfl))
 f9:=⟨Tryz.f163.name,by decide,Tryz.func163.trans (congrArg some (by kernel_rfl))⟩
 f19:=Tryz.func210.trans (congrArg some (by kernel_rfl))
 f20:=Tryz.func211.trans (congrArg some (by kernel_rfl))
 f21:=⟨Tryz.f201.name,by decide,Tryz.func201.trans (congrArg some (by kernel_rfl))⟩
 f22:=⟨Tryz.f202.name,by decide,Tryz.func202.trans (congrArg some (by kernel_rfl))⟩
 f23:=⟨Tryz.f203.name,by decide,Tryz.func203.trans (congrArg some (by kernel_rfl))⟩
 f24:=⟨Tryz.f204.name,by decide,Tryz.func204.trans (congrArg some (by kernel_rfl))⟩
 f25:=⟨Tryz.f205.name,by decide,Tryz.func205.trans (congrArg some (by kernel_rfl))⟩
 f26:=⟨Tryz.f206.name,by decide,Tryz.func206.trans (congrArg some (by kernel_rfl))⟩
 f27:=⟨Tryz.f207.name,by decide,Tryz.func207.trans (congrArg some (by kernel_rfl))⟩
 f28:=⟨Tryz.f208.name,by decide,Tryz.func208.trans (congrArg some (by kernel_rfl))⟩
 f29:=⟨Tryz.f209.name,by decide,Tryz.func209.trans (congrArg some (by kernel_rfl))⟩
 f31:=Tryz.func236.trans (congrArg some (by kernel_rfl))
 f32:=Tryz.func237.trans (congrArg some (by kernel_rfl))
 f36:=⟨Tryz.f235.name,by decide,Tryz.func235.trans (congrArg some (by kernel_rfl))⟩
 f37:=⟨Tryz.f238.name,by decide,Tryz.func238.trans (congrArg some (by kernel_rfl))⟩
 f38:=⟨Tryz.f239.name,by decide,Tryz.func239.trans (congrArg some (by kernel_rfl))⟩
 f39:=⟨Tryz.f240.name,by decide,Tryz.func240.trans (congrArg some (by kernel_rfl))⟩
 f41:=⟨Tryz.f259.name,by decide,Tryz.func259.trans (congrArg some (by kernel_rfl))⟩
 t0:=Tryz.underlying0
 a0:=Tryz.isAgg0
 z0:=Tryz.sizeOf0
 v0:=Tryz.zeroValue0
 t3:=Tryz.underlying3
 a3:=Tryz.isAgg3
 z3:=Tryz.sizeOf3
 v3:=Tryz.zeroValue3
 t4:=Tryz.underlying4
 a4:=Tryz.isAgg4
 z4:=Tryz.sizeOf4
 v4:=Tryz.zeroValue4
 t5:=Tryz.underlying5
 a5:=Tryz.isAgg5
 z5:=Tryz.sizeOf5
 v5:=Tryz.zeroValue5
 t9:=Tryz.underlying9
 a9:=Tryz.isAgg9
 z9:=Tryz.sizeOf9
 v9:=Tryz.zeroValue9
 t26:=Tryz.underlying69
 a26:=Tryz.isAgg69
 z26:=Tryz.sizeOf69
 v26:=Tryz.zeroValue69
 t27:=Tryz.underlying69
 a27:=Tryz.isAgg69
 z27:=Tryz.sizeOf69
 v27:=Tryz.zeroValue69
 t29:=Tryz.underlying9
 a29:=Tryz.isAgg9
 z29:=Tryz.sizeOf9
 v29:=Tryz.zeroValue9
 t32:=Tryz.underlying29
 a32:=Tryz.isAgg29
 z32:=Tryz.sizeOf29
 v32:=Tryz.zeroValue29
 t35:=Tryz.underlying247
 a35:=Tryz.isAgg247
 z35:=Tryz.sizeOf247
 v35:=Tryz.zeroValue247
 t36:=Tryz.underlying248
 a36:=Tryz.isAgg248
 z36:=Tryz.sizeOf248
 v36:=Tryz.zeroValue248
 t41:=Tryz.underlying187
 a41:=Tryz.isAgg187
 z41:=Tryz.sizeOf187
 v41:=Tryz.zeroValue187
 t44:=Tryz.underlying45
 a44:=Tryz.isAgg45
 z44:=Tryz.sizeOf45
 v44:=Tryz.zeroValue45
 t46:=Tryz.underlying123
 a46:=Tryz.isAgg123
 z46:=Tryz.sizeOf123
 v46:=Tryz.zeroValue123
 t53:=Tryz.underlying281
 a53:=Tryz.isAgg281
 z53:=Tryz.sizeOf281
 v53:=Tryz.zeroValue281
 t57:=Tryz.underlying284
 a57:=Tryz.isAgg284
 z57:=Tryz.sizeOf284
 v57:=Tryz.zeroValue284
 t63:=Tryz.underlying298
 a63:=Tryz.isAgg298
 z63:=Tryz.sizeOf298
 v63:=Tryz.zeroValue298
 t64:=Tryz.underlying299
 a64:=Tryz.isAgg299
 z64:=Tryz.sizeOf299
 v64:=Tryz.zeroValue299 }
end Go.Proofs
namespace Go.Proofs
open Go.RowKit Go.Maps Go.Sort Go.Shelf
theorem Tryz.P9(m:Nat):AnyZ.SortsIn Tryz.prog Tryz.tD Fence.wide m:=
 ⟨λb d cap f W e a c=>callsIn_wide.2 (AnyM.slices_Sort_string Tryz.Pf b d cap f W e a c),
  λp cap W=>callsIn_wide.2 (AnyM.slices_Sort_string_none Tryz.Pf p cap W)⟩
theorem Tryz.Dd{H:Type}(B ro b z:Nat)(h:DataW H)(R:Value->Option (DataW H×List MemPlace))(w:World)(N:w.cell? ⟨B,ro+1,none⟩=some (.map (some b)))(d:w.ownsMap Tryz.prog 9 R b z h)(j:Maps.size h<=maxLen)(c:Maps.size h*16<=140737488355328) :
 Calls Tryz.prog 29 #[.pointer (some ⟨B,ro,none⟩)] w λe w'=>∃(v:Value) (g:List (List UInt8)),e = .returned v/\g.Perm (strKeys h) ∧
  w'.ownsRow w.heap.size 9 1 v g.length ((g.mergeSort (λx y=>decide (x<=y))).map encStr)/\(v = .slice none 0 0↔g=[])/\Below w.heap.size w w':=by
 refine(callsIn_wide (n:=6)).1 ?_;have u:=d.lt
 have q:SeqGives Fence.wide 2 Tryz.prog 125 #[.pointer (some ⟨w.heap.size,0,none⟩)] encStr (λg=>g.Perm (strKeys h)) (Maps.size h) (w.alloc (.cells #[.map (some b)] 81)):=
  AnyZ.keys_gives (ρ:=Tryz.xD) { Tryz.Pb with } Fence.wide _ trivial rfl (by omega) w.heap.size b z h _ (by simp) (by simp) (by
   obtain⟨es,clock,t,C,J,E⟩:=d;exact⟨es,clock,(Below.heap_alloc _ _ b u).trans t,C,J,E⟩)
 have D:∀r W,CallsIn Fence.wide 5 Tryz.prog 83 #[.map r] W λe w'=>e = .returned (.func (.func 125) #[] #[.pointer (some ⟨W.heap.size,0,none⟩)])/\w'=W.alloc (.cells #[.map r] 81):=λr W=>AnyZ.keys_in Tryz.Pb Fence.wide 5 trivial rfl r W
 have cS:=AnyZ.sorted_in Tryz.OZ Fence.wide 5 trivial trivial trivial trivial rfl (by omega) (Tryz.P9 _) (enters_of Tryz.func124 (by kernel_rfl) rfl) 125 #[.pointer (some ⟨w.heap.size,0,none⟩)] trivial (enters_of Tryz.func125 (by kernel_rfl) rfl) _ _ j c _ q
 change CallsIn _ _ Tryz.prog 82 _ _ _ at cS
 have G:Fence.wide.fn 83:=trivial;have I:Fence.wide.fn 82:=trivial;refine callsIn_of_wp Tryz.func29 rfl trivial ?_ rfl;simp only[Tryz.ntmps29,List.size_toArray,List.length_cons,List.length_nil,Nat.reduceAdd,Nat.reduceSub,Array.replicate_succ,Array.replicate_zero,List.push_toArray,List.append_toArray,List.nil_append,List.cons_append]
 gi_wp2_with (first
  |(gi_at_call 83;refine(D _ _).mono ?_;rintro e w' ⟨rfl,rfl⟩)
  |(gi_at_call 82;refine cS.mono ?_;rintro e w' ⟨v,g,rfl,F,o,k,t⟩))
 go_ret
 exact⟨v,g,rfl,F,ownsRow_base_a o (by simp),k,((Below.refl _ w).alloc (Nat.le_refl _) _).trans (t.mono (by simp))⟩
end Go.Proofs
namespace Go.Proofs.YtbohejffelipoaaGreatDoor
open Go Go.Abs Go.Abs.F
open Go.WideElems (Fit rd rg)
theorem tj{f:FuncId}{g:List T}{σ d:St}{t:T}(h:fT f g σ=some (t,d)) :
 f=29/\∃i o own vs m es ks,g=[Z (.ptr i o)]/\σ.get i=some (.K own vs)/\vs[o+1]? = some (.map m)/\σ.get m=some (.map es)/\es.length<=1000/\kO es=some ks ∧
  ((ks=[]/\t=Z .av/\d=σ)\/(ks≠[]/\t=Z (.sl σ.size 0 ks.length (.grown 1))/\d=σ.push (.K false ((dL ks).map S.str)))):=by
 unfold fT at h;split at h
 ·cases h
 ·rename_i j;refine⟨dY j,?_⟩;split at h
  ·rename_i i o;split at h
   ·rename_i own vs hi;split at h
    ·rename_i m e;split at h
     ·rename_i es a;split at h
      ·rename_i c b;cases h;exact⟨i,o,own,vs,m,es,_,rfl,hi,e,a,cm c,b,.inl ⟨rfl,rfl,rfl⟩⟩
      ·rename_i k l c b;cases h;exact⟨i,o,own,vs,m,es,_,rfl,hi,e,a,cm c,b,.inr ⟨by simp,rfl,rfl⟩⟩
      ·cases h
     ·cases h
    ·cases h
   ·cases h
  ·cases h
theorem Lh{ι:cV}{w:World}{L:Abs.Loc}{es:List (S×V)}{ks:List (List UInt8)}(F:fg ι L w (.map es))(G:kO es=some ks)(u:es.length<=1000) :
 ∃r:DataW Unit,w.ownsMap Tryz.prog 9 (λ_=>some (.nil,[])) L.b 1000 r/\(strKeys r).Perm ks/\Maps.size r<=1000:=by
 obtain⟨c,t,C,y,D,E⟩:=F;obtain⟨N,O,Q⟩:=wP G;have g:c.size=es.length:=by rw[<-gf,<-aP y]
 have d:c.toList.map (·.key)=ks.map encStr:=by
  have:∀{es:List (S×V)} {l:List MapEntry} {ks:List (List UInt8)},bC (iC ι) es l->es.map (·.1)=ks.map S.str->l.map (·.key)=ks.map encStr:=by
   intro es l ks h;induction h generalizing ks with
   |nil=>intro e;cases ks with
    |nil=>rfl
    |cons _ _=>simp at e
   |cons a b J=>
    intro e;cases ks with
    |nil=>simp at e
    |cons k ks=>
     simp only[eE,Mr]at e ⊢;refine⟨?_,J e.2⟩;have:=a.1;rw[e.1]at this;obtain⟨s,I,u⟩:=this;rw[I];show Value.string s=Value.string ⟨k.toArray⟩
     rw[<-u]
  exact this y N
 have j:∀x∈c.toList,∃n,n∈ks/\x.key=encStr n/\rd (H:=Unit) Tryz.prog 9 (λ_=>some (.nil,[])) x=some (.string n,.nil):=by
  intro x o;have:x.key∈ks.map encStr:=by rw[<-d];exact gX o
  obtain⟨n,q,e⟩:=gl.1 this;refine⟨n,q,e.symm,?_⟩;unfold rd;rw[<-e,Go.WideMaps.keyOf_string_mk Tryz.underlying9 (by have:=Q n q;exact bl (by simpa[ByteArray.size]using this) (by decide))];simp
 refine⟨_,⟨c,t,C,⟨by rw[g];exact bl u (by decide),⟨E,?_,?_⟩,λx o => ?_⟩,by omega,rfl⟩,?_,?_⟩
 ·rw[zM,FA];exact D.imp λh=>by omega
 ·rw[d];rw[zM,FA];exact(zM.1 O).imp λh e=>h (by simpa using e)
 ·obtain⟨n,_,_,h⟩:=j x o;exact⟨_,h⟩
 ·show(List.map (λp:Lit×DataW Unit=>Go.strOf p.1) _).Perm ks
  refine((WideShapes.sorted_perm _).map _).trans ?_;rw[jy]
  have:c.toList.map ((λp:Lit×DataW Unit=>Go.strOf p.1) ∘ rg (H:=Unit) Tryz.prog 9 (λ_=>some (.nil,[])))=ks:=by
   have z:c.toList.map ((λp:Lit×DataW Unit=>Go.strOf p.1) ∘ rg (H:=Unit) Tryz.prog 9 (λ_=>some (.nil,[])))=c.toList.map (λx=>match x.key with | .string s=>s.data.toList | _=>[]):=by
    apply oZ;intro x o;obtain⟨n,_,q,h⟩:=j x o;simp[rg,h,q,Go.strOf]
   rw[z];have B:c.toList.map (λx=>match x.key with | .string s=>s.data.toList | _=>[])=(c.toList.map (·.key)).map (λv=>match v with | .string s=>s.data.toList | _=>[]):=by rw[jy];rfl
   rw[B,d,jy];simp[Function.comp_def]
  rw[this]
 ·show(List.foldr DataW.insert [] _).length<=1000
  rw[(WideShapes.sorted_perm _).length_eq,oY,gf];omega
theorem zi:aS Tryz.prog fT:=by
 constructor
 ·intro f SB σ t SC h Sx;obtain⟨_,i,o,own,vs,m,es,ks,_,_,_,_,_,_,h | h⟩:=tj h
  ·obtain⟨_,_,rfl⟩:=h;exact⟨Sx,au _⟩
  ·obtain⟨_,_,rfl⟩:=h;exact⟨St.bo Sx _,by simp⟩
 ·intro f SB σ t SC h Sx ι w vs F hF hA;obtain⟨rfl,i,o,own,cs,m,es,ks,rfl,hi,SA,Sn,hl,hk,h⟩:=tj h;cases hA with
  |cons a b=>
  cases b;obtain⟨L,hL,rfl⟩:=a;obtain⟨c,e,fz,h1,h2,h3,h4,h5⟩:=F.blk i L _ hL hi;obtain⟨v,hv,hr⟩:=h4 (o+1) _ SA;obtain⟨M,hM,rfl⟩:=hr;have Sz:=F.blk m M _ hM Sn;obtain⟨D0,Sj,hp,hs⟩:=Lh Sz hk hl
  have hc:w.cell? ⟨L.b,L.base+o+1,none⟩=some (.map (some M.b)):=by
   unfold World.cell?;simp only[h1];rw[aH]
   simpa using hv
  refine(Tryz.Dd L.b (L.base+o) M.b 1000 D0 _ w hc Sj (bl hs (by decide)) (by omega)).mono ?_;rintro e' u ⟨v,ss,rfl,Su,J,I,d⟩;have E:=Su.trans hp
  have H:ss.mergeSort (λx y=>decide (x<=y))=dL ks:=by
   rw[<-wQ ks];exact mergeSort_of_perm E
  rw[H]at J;have r:=E.length_eq;rcases h with ⟨rfl,rfl,rfl⟩ | ⟨Sr,rfl,rfl⟩
  ·have:ss=[]:=cJ (by simpa using r);refine⟨ι,v,rfl,⟨au _,λ_ _=>rfl,λ_ _ h=>h,λ_ _ h=>h,λ_ _ _=>rfl,λi L h1 h2=>by omega,d.os,d.output,d.size,λk hk _=>d.block k hk⟩,⟨λi L b Sp D => ?_,F.sep,F.eb⟩,I.2 this⟩;have z:=F.blk i L b Sp D;cases b with
   |dead=>trivial
   |K own vs=>exact z.congr (d.block _ (z.lt trivial))
   |map es=>exact z.congr (d.block _ (z.lt trivial))
   |eb g vs=>exact z.congr (d.block _ (z.lt trivial))
   |mark vs=>exact z.congr (d.block _ (z.lt trivial))
  ·have R:ss≠[]:=λe=>Sr (by rw[e]at r;exact cJ (by simpa using r.symm))
   rcases J.2 with ⟨e,_⟩ | ⟨g,cap,U,rfl,T,V,Y,Sy,Sv,Sw⟩
   ·exact absurd (I.1 e) R
   have Ss:(dL ks).length=ks.length:=(dR ks).length_eq
   let κ:cV:=λj=>if j=σ.size then some ⟨g,0,cap,0⟩else ι j
   have Sk:ι.le κ:=by
    intro j M q;have:j≠σ.size:=λe=>by rw[hF j (by omega) (by simp;omega)]at q;cases q
    simp[κ,this,q]
   have Z:fg κ ⟨g,0,cap,0⟩ u (.K false ((dL ks).map S.str)):=by
    refine⟨U,_,(0,0),V,by rw[Sv,dZ],by simp[Ss,<-r];exact Y,λj x hx => ?_,λe=>by cases e⟩;rw[cL,o6]at hx;obtain⟨n,hn,rfl⟩:=hx;have q:j<(dL ks).length:=(bq.1 hn).1;have O:(U.toList.take (ss.length*1))[j]? = some (encStr n):=(by rw[Sw,cL,hn];rfl);rw[mX,af (by omega),na]at O;exact⟨_,by simpa using O,⟨_,rfl,by simp⟩⟩
   refine⟨κ,_,rfl,?_,⟨λj M b q D => ?_,λj k M N q B C G X => ?_,λj n vs T => ?_⟩,?_⟩
   ·refine⟨by simp,λj q => ?_,λj q C => ?_,λj q C => ?_,λj q hn => ?_,λj M h1 h2 q _ => ?_,d.os,d.output,d.size,λk B _=>d.block k B⟩
    ·have:j≠σ.size:=(by simp at q;omega);simp[κ,this]
    ·rwa [St.j5 (by omega)]at C
    ·rwa [St.j5 (by omega)]at C
    ·rw[St.j5 (by omega)]
    ·have:j=σ.size:=(by simp at h2;omega);subst this;simp[κ]at q;subst q;exact .inl T
   ·by_cases e:j=σ.size
    ·subst e;simp[κ]at q;subst q;rw[St.bf]at D;cases D;exact Z
    ·simp[κ,e]at q;rw[St.j5 e]at D;have z:=(F.blk j M b q D).mono Sk;cases b with
     |dead=>trivial
     |K own vs=>exact z.congr (d.block _ (z.lt trivial))
     |map es=>exact z.congr (d.block _ (z.lt trivial))
     |eb g vs=>exact z.congr (d.block _ (z.lt trivial))
     |mark vs=>exact z.congr (d.block _ (z.lt trivial))
   ·have Sl:∀{j:Nat} {M:Abs.Loc},j≠σ.size->κ j=some M->held ((σ.push (.K false ((dL ks).map S.str))).get j)->M.b<w.heap.size:=by
     intro j M e q G;simp[κ,e]at q;rw[St.j5 e]at G;cases Q:σ.get j with
     |none=>rw[Q]at G;exact G.elim
     |some b=>rw[Q]at G;exact(F.blk j M b q Q).lt G
    by_cases O:j=σ.size
    ·subst O;have Sm:=Sl (λe=>X e.symm) B G;simp[κ]at q;subst q;intro e;have:g=N.b:=e;omega
    ·by_cases e2:k=σ.size
     ·subst e2;have Sm:=Sl O q C.held;simp[κ]at B;subst B;intro e;have:M.b=g:=e;omega
     ·simp[κ,O]at q;simp[κ,e2]at B;rw[St.j5 O]at C;rw[St.j5 e2]at G;exact F.sep j k M N q B C G X
   ·by_cases e:j=σ.size
    ·subst e;rw[St.bf]at T;cases T
    ·rw[St.j5 e]at T;obtain⟨L,hL⟩:=F.eb j n vs T;exact⟨L,Sk j L hL⟩
   ·refine⟨⟨g,0,cap,0⟩,cap,by simp[κ],?_,by rw[<-r];exact Y,by simp⟩;rw[r]
end Go.Proofs.YtbohejffelipoaaGreatDoor
namespace Go.Proofs.YtbohejffelipoaaGreatDoor
open Go Go.Abs Go.Abs.F
theorem Dc:aS Tryz.prog BV:=
 Bv (by kernel_rfl) (λn a b w c=>Tryz.strconv_Itoa n a b w c)
theorem HR{P:Program}{F:List Nat}{c:bc}(h:aS P c):aS P (HQ F c):=wo (λf a σ r e=>by
 unfold HQ at e;split at e
 ·split at e
  ·exact e
  ·cases e
 ·cases e) h
theorem BU:aS Tryz.prog xX:=by
 refine ix (ix (ix (GS ?_ ?_) (Bx ?_ ?_)) (lG (jr mK 64 8) _)) Dc
 ·intro f q s c w;have:f=247\/f=248:=by simpa[KH]using q
  rcases this with rfl | rfl
  ·exact Tryz.strings_Index_one s c w
  ·exact Tryz.stringslite_Index_one s c w
 ·exact λs c w=>Tryz.strings_Count_one s c w
 ·exact λa c d w=>Tryz.strings_Join_none a c d w
 ·exact λe o c xs d w g h j k n=>Tryz.strings_Join e o c xs d w g h j k n
theorem tq:aS Tryz.prog Li:=ix zi (ix (ix (HR (lG (jr (lG (jr mK 64 8) _) 64 16) _)) (ix Gu r6)) BU)
set_option maxRecDepth 100000 in
theorem DY:C6 true (gA Tryz.prog 64 Li 20 7 [] St.empty)=true:=by kernel_rfl
theorem DA:aS Tryz.prog fq:=ix (Cs (jr tq 64 20) DY) tq
end Go.Proofs.YtbohejffelipoaaGreatDoor
