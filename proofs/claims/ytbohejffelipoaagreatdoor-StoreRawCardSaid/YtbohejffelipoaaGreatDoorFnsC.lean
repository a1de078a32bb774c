/-
  Several texts in one: what functions that the law reaches compute. No conditions but those named in each line.
-/
import Derived.Test.YtbohejffelipoaaGreatDoorFnsB
import Derived.Test.YtbohejffelipoaaGreatDoorFnsA
set_option linter.unusedVariables false
set_option linter.unusedSimpArgs false
set_option maxHeartbeats 4000000
namespace Go.Proofs.YtbohejffelipoaaGreatDoor
open Go Go.Abs Go.Abs.F
structure bM where
 k:Int
 v:Int
 i:Int
 t:Int
 f:Int
 o:Int
 u:Int
 x:Bs
 deriving DecidableEq
def cE(e:bM):List S:=[.int .i64 e.k,.int .i64 e.v,.int .i64 e.i,.int .i64 e.t,.int .i64 e.f,.int .i64 e.o,.int .u32 e.u,.str e.x]
abbrev AE(e:bM):T := .v (.agg (cE e))
def bN:bM:=⟨0,0,0,0,0,0,0,[]⟩
theorem mq(e:bM):(cE e).length=8:=rfl
def lj(n:Int):Bool:=decide (1<=n)&&decide (n<=1073741824)
def bR(e:bM):Bool:=
 if e.v<0\/1073741824<e.v then false
 else if e.k=1 then decide (e.x=[])&&lj e.i&&decide (0<=e.t)&&decide (e.t<4)&&decide (0<=e.f)&&decide (e.f<e.o)&&decide (e.o<=1099511627776)
 else if e.k=2 then lj e.i&&decide (e={ bN with k:=2,v:=e.v,i:=e.i })
 else if e.k=3 then decide (0<e.v)&&decide (e={ bN with k:=3,v:=e.v })
 else if e.k=4 then decide (e.x.length<=300)&&decide (e={ bN with k:=4,v:=e.v,x:=e.x })&&decide ((e3 e.x).2.1=0)
 else false
section
variable {s t:St}{x y:S}{l:Bs}{i:Nat}
theorem RY(a b:bM):yt (.a 8 [(0,.i),(1,.i),(2,.i),(3,.i),(4,.i),(5,.i),(6,.i),(7,.s)]) (AE a) (AE b)=some (decide (a=b)):=by
 obtain⟨c,d,e,f,g,h,j,k⟩:=a;obtain⟨l,m,n,o,p,q,r,t⟩:=b;show some (decide (c=l)&&(decide (d=m)&&(decide (e=n)&&(decide (f=o)&&(decide (g=p)&&(decide (h=q)&&(decide (j=r)&&(decide (k=t)&&true))))))))=some (decide (bM.mk c d e f g h j k=bM.mk l m n o p q r t))
 simp only[bM.mk.injEq,np,p6]
theorem MV(a b:bM):lu (.a 8 [(0,.i),(1,.i),(2,.i),(3,.i),(4,.i),(5,.i),(6,.i),(7,.s)]) (AE a) (AE b)=some (B (decide (a=b))):=by
 simp only[lu,RY]
theorem RL(a b:bM):xN (.a 8 [(0,.i),(1,.i),(2,.i),(3,.i),(4,.i),(5,.i),(6,.i),(7,.s)]) (AE a) (AE b)=some (B (!decide (a=b))):=by
 simp only[xN,RY]
theorem eA{i:Nat}{w:Bool}{e:bM}{g:Mem}(h:g i=some (.K w (cE e))):ay 8 (Z (.ptr i 0)) g=some (AE e):=by
 simp[ay,h,cE]
theorem js{i:Nat}{vs:List S}{e:bM}(h:s.get i=some (.K true vs))(b:vs.length=8):aj 8 (Z (.ptr i 0)) (AE e) s=some (tt,s.set i (.K true (cE e))):=by
 have a:(V.agg (cE e)).cells.length=8/\0+8<=vs.length:=⟨rfl,by omega⟩;simp only[aj,h,af a];rw[show(V.agg (cE e)).cells=cE e from rfl,cK (by rw[b];rfl)]
theorem uS:aO (aA [iz,iz,iz,iz,iz,iz,.int .u32 0,.str []] [])=some (AE bN):=rfl
theorem PN(d:Nat)(n:Int):R (d+1) 193 [J n] s=some (B (lj n),s):=by
 rw[JW];unfold f193;by_cases h:1<=n
 ·simp[lj,h]
 ·simp[lj,h]
theorem vB(d:Nat)(Sm:s.wf)(e:bM):∃t,R (d+8) 149 [AE e] s=some (B (bR e),t)/\Gr s t:=by
 rw[Jy];unfold f149;obtain⟨s1,O⟩:=aZ (s.push (.K true (cE e)));have c:aE s (b6 (AE e))=some (Z (.ptr s.size 0),s1):=by rw[O];rfl
 have E:Gr s s1:=by rw[O];exact Gr.push Sm _
 have N:s1.get s.size=some (.K true (cE e)):=by rw[O];exact St.ec
 have w:aa (Z (.ptr s.size 0)) s1.get=some (J e.k):=ag N rfl;have u:aa (Z (.ptr s.size 1)) s1.get=some (J e.v):=ag N rfl;have I:aa (Z (.ptr s.size 2)) s1.get=some (J e.i):=ag N rfl;have S:aa (Z (.ptr s.size 3)) s1.get=some (J e.t):=ag N rfl;have T:aa (Z (.ptr s.size 4)) s1.get=some (J e.f):=ag N rfl;have U:aa (Z (.ptr s.size 5)) s1.get=some (J e.o):=ag N rfl;have F:aa (Z (.ptr s.size 7)) s1.get=some (Z (.str e.x)):=ag N rfl;have l8:=eA (g:=s1.get) N;have j:=PN (s:=s1) (d+6) e.i;simp only[aH,Nat.reduceAdd]at j;by_cases n:e.v<0
 ·refine⟨s1,?_,E⟩;have z:bR e=false:=by simp[bR,n]
  rw[z];simp[c,u,n]
 ·by_cases q:1073741824<e.v
  ·refine⟨s1,?_,E⟩;have z:bR e=false:=by simp[bR,q]
   rw[z];simp[c,u,n,q]
  ·have hv:¬(e.v<0\/1073741824<e.v):=λh=>h.elim n q
   by_cases C:e.k=1
   ·have z:bR e=(decide (e.x=[])&&lj e.i&&decide (0<=e.t)&&decide (e.t<4)&&decide (0<=e.f)&&decide (e.f<e.o)&&decide (e.o<=1099511627776)):=by
     unfold bR;rw[ae hv,af C]
    rw[z];refine⟨s1,?_,E⟩;by_cases y:e.x=[]
    ·cases d2:lj e.i with
     |true=>
      rw[d2]at j;by_cases d3:0<=e.t
      ·by_cases d4:e.t<4
       ·by_cases d5:0<=e.f
        ·by_cases d6:e.f<e.o
         ·simp[c,w,u,I,S,T,U,F,n,q,C,y,j,d3,d4,d5,d6]
         ·simp[c,w,u,I,S,T,U,F,n,q,C,y,j,d3,d4,d5,d6]
        ·simp[c,w,u,I,S,T,U,F,n,q,C,y,j,d3,d4,d5]
       ·simp[c,w,u,I,S,T,U,F,n,q,C,y,j,d3,d4]
      ·simp[c,w,u,I,S,T,U,F,n,q,C,y,j,d3]
     |false=>
      rw[d2]at j;simp[c,w,u,I,S,T,U,F,n,q,C,y,j]
    ·simp[c,w,u,I,S,T,U,F,n,q,C,y]
   ·by_cases Q:e.k=2
    ·have z:bR e=(lj e.i&&decide (e={ bN with k:=2,v:=e.v,i:=e.i })):=by
      unfold bR;rw[ae hv,ae C,af Q]
     rw[z];refine⟨s1,?_,E⟩;have V:aO (aA [iz,iz,iz,iz,iz,iz,.int .u32 0,.str []] [(0,1,(J 2)),(1,1,J e.v),(2,1,J e.i)])=some (AE { bN with k:=2,v:=e.v,i:=e.i }):=rfl;have eq:=MV e { bN with k:=2,v:=e.v,i:=e.i };generalize hD:decide (e={ bN with k:=2,v:=e.v,i:=e.i })=D at*;generalize({ bN with k:=2,v:=e.v,i:=e.i }:bM)=e2 at*;cases d2:lj e.i with
     |true=>
      rw[d2]at j;simp[c,w,u,I,l8,n,q,Q,j,V,eq]
     |false=>
      rw[d2]at j;simp[c,w,u,I,l8,n,q,Q,j]
    ·by_cases X:e.k=3
     ·have z:bR e=(decide (0<e.v)&&decide (e={ bN with k:=3,v:=e.v })):=by
       unfold bR;rw[ae hv,ae C,ae Q,af X]
      rw[z];refine⟨s1,?_,E⟩;have V:aO (aA [iz,iz,iz,iz,iz,iz,.int .u32 0,.str []] [(0,1,(J 3)),(1,1,J e.v)])=some (AE { bN with k:=3,v:=e.v }):=rfl;have eq:=MV e { bN with k:=3,v:=e.v };generalize hD:decide (e={ bN with k:=3,v:=e.v })=D at*;generalize({ bN with k:=3,v:=e.v }:bM)=e2 at*;by_cases y:0<e.v
      ·simp[c,w,u,l8,n,q,X,y,V,eq]
      ·simp[c,w,u,l8,n,q,X,y]
     ·by_cases Y:e.k=4
      ·have z:bR e=(decide (e.x.length<=300)&&decide (e={ bN with k:=4,v:=e.v,x:=e.x })&&decide ((e3 e.x).2.1=0)):=by
        unfold bR;rw[ae hv,ae C,ae Q,ae X,af Y]
       rw[z];have V:aO (aA [iz,iz,iz,iz,iz,iz,.int .u32 0,.str []] [(0,1,(J 4)),(1,1,J e.v),(7,1,Z (.str e.x))])=some (AE { bN with k:=4,v:=e.v,x:=e.x }):=rfl;have eq:=RL e { bN with k:=4,v:=e.v,x:=e.x };generalize hD:decide (e={ bN with k:=4,v:=e.v,x:=e.x })=D at*;generalize({ bN with k:=4,v:=e.v,x:=e.x }:bM)=e2 at*;by_cases y:e.x.length<=300
       ·have G:¬(300:Int)<(e.x.length:Int):=(by omega);cases D with
        |false=>
         refine⟨s1,?_,E⟩;simp[c,w,u,F,l8,n,q,Y,G,V,eq]
        |true=>
         obtain⟨s2,Sj,g2⟩:=xT (l:=e.x) d E.wf (by omega);obtain⟨s3,H⟩:=aZ (s2.push (.K true (cP bV)));have Sk:aE s2 (a6 [iz,iz,iz,iz,iz,iz])=some (Z (.ptr s2.size 0),s3):=(by rw[H];rfl);have g3:Gr s2 s3:=(by rw[H];exact Gr.push g2.wf _);have st:=gB (p:=(e3 e.x).1) (s:=s3) (i:=s2.size) (vs:=cP bV) (by rw[H];exact St.ec) rfl;refine⟨s3.set s2.size (.K true (cP (e3 e.x).1)),?_,E.trans (g2.trans ⟨St.wf_set g3.wf (by rw[H];simp) _,by simp;exact g3.2.1,λb Sl=>by rw[St.bO (by omega)];exact g3.2.2 b Sl⟩)⟩;generalize R (d+7)=r at*;simp[c,w,u,F,l8,n,q,Y,G,y,V,eq,Sj,ai,Sk,st]
       ·have G:(300:Int)<(e.x.length:Int):=(by omega);refine⟨s1,?_,E⟩;simp[c,w,u,F,n,q,Y,G,y]
      ·have z:bR e=false:=(by unfold bR;rw[ae hv,ae C,ae Q,ae X,ae Y]);rw[z];refine⟨s1,?_,E⟩;simp[c,w,u,n,q,C,Q,X,Y]
def dU(e:bM):List Nat:=
 if e.k=1 then [e.i.toNat,e.t.toNat,e.f.toNat,e.o.toNat,e.u.toNat]else if e.k=2 then [e.i.toNat]else if e.k=4 then [e.x.length]else []
def dc:List Nat->Bs
 | []=>[]
 |n::r=>aq n++dc r
def bF(e:bM):Bs:=UInt8.ofNat e.k.toNat::(aq e.v.toNat++dc (dU e)++e.x)
def ct(e:bM):Option Bs:=if bR e then some (bF e)else none
def rf(l:List Nat):List S:=l.map λn:Nat=>S.int .u64 (n:Int)
@[simp] theorem QT (l:List Nat):(rf l).length=l.length:=by simp[rf]
theorem ma:∀l:List Nat,(dc l).length<=11*l.length
 | []=>by simp[dc]
 |n::r=>by have:=aX n;have:=ma r;simp[dc];omega
theorem vR:∀(l:List Nat) (n:Nat),dc (l++[n])=dc l++aq n
 | [],n=>by simp[dc]
 |m::r,n=>by simp[dc,vR r n]
theorem qO(e:bM):(dU e).length<=5:=by
 unfold dU;split
 ·simp
 ·split
  ·simp
  ·split<;>simp
theorem xQ(d:Nat){s0:St}{v0:T}{acc:Bs}{ns:List Nat}(Sk:FB s0 s y acc)(hx:Rd 1 s x ns.length (rf ns))(D:∀c,own x=some c->c<s.size/\own y≠some c/\s0.size<=c)(hn:∀n∈ns,n<2 ^ 64)(hl:ns.length<=5)(ha:acc.length<=1000) :
 ∃(z:S) (F:St),loops (ju (R (d+1)) 8192) 8192 [v0,Z y,Z x,J ns.length,J 0] s=some (.exit 1 [v0,Z z],F)/\FB s0 F z (acc++dc ns):=by
 obtain⟨j,F,lp,z,rfl,o⟩:=aL (f:=ju (R (d+1)) 8192) (λq v u=>∃(k:Nat) (z:S),q+k=ns.length/\v=[v0,Z z,Z x,J ns.length,J k]/\FB s0 u z (acc++dc (ns.take k))/\Rd 1 u x ns.length (rf ns)/\(∀c,own x=some c->c<u.size/\own z≠some c))
  (λj u=>∃z,j = .exit 1 [v0,Z z]/\FB s0 u z (acc++dc ns)) (by
  rintro q v u ⟨k,z,hk,rfl,o,X,C⟩;by_cases B:k<ns.length
  ·left;have w:ns[k]? = some ns[k]:=aU B;obtain⟨p,ix,ld⟩:=Rd.CJ X (n:=ns.length) (i:=(k:Int)) (v := .int .u64 (ns[k]:Int)) rfl (by simp[rf,w]);have Sj:(k:Int)<(ns.length:Int):=by omega
   have w1:IntKind.i64.wrap ((k:Int)+1)=((k+1:Nat):Int):=by rw[aw _ (by omega) (by omega)];omega
   have Q:ns.take (k+1)=ns.take k++[ns[k]]:=by rw[cM,w];rfl
   obtain⟨p1,u1,e1,t⟩:=fZ d o.gr.wf ns[k] (hn _ (mY B));have G:FB s0 u1 z (acc++dc (ns.take k)):=o.j6 t.gr;have Sm:(dc (ns.take k)).length<=55:=by have:=ma (ns.take k);rw[bb]at this;omega
   obtain⟨V,U,Y,H,Sn,h,E⟩:=FB.MF G t.rd (by have:=aX ns[k];simp;omega);have O:Rd 1 U x ns.length (rf ns):=X.keep λc g=>by rw[h c (bh (C c g).1 t.gr.2.1) (C c g).2,t.gr.2.2 c (C c g).1]
   have N:∀c,own x=some c->c<U.size/\own V≠some c:=λc g=>by
    have h1:=(C c g).1;have h2:=t.gr.2.1;refine⟨by omega,λe => ?_⟩;rcases E with n | n | ⟨c',n,Sl⟩
    ·rw[n]at e;cases e
    ·rw[n]at e;exact(C c g).2 e
    ·rw[n]at e;cases e;omega
   refine⟨[v0,Z V,Z x,J ns.length,J ((k+1:Nat):Int)],U,q-1,?_,by omega,k+1,V,by omega,rfl,by rw[Q,vR,<-bg];exact H,O,N⟩;unfold ju;generalize R (d+1)=r at*;simp[Sj,ix,ld,e1,Y,w1]
  ·right;have I:k=ns.length:=by omega
   subst I;rw[dE]at o;refine⟨.exit 1 [v0,Z z],u,?_,(λv hv=>by cases hv),z,rfl,o⟩;unfold ju;simp) 8192 ns.length [v0,Z y,Z x,J ns.length,J 0] s ⟨0,y,by omega,rfl,by simpa[dc]using Sk,hx,λc w=>⟨(D c w).1,(D c w).2.1⟩⟩ (by omega)
 exact⟨z,F,lp,o⟩
def nI(e:bM):Prop:=0<=e.u/\e.u<4294967296
theorem eN{e:bM}(h:bR e=true):0<=e.v/\e.v<=1073741824/\1<=e.k/\e.k<=4/\(e.k=1->e.x=[]/\1<=e.i/\e.i<=1073741824/\0<=e.t/\e.t<4/\0<=e.f/\e.f<e.o/\e.o<=1099511627776) ∧
 (e.k=2->1<=e.i/\e.i<=1073741824/\e={ bN with k:=2,v:=e.v,i:=e.i })/\(e.k=3->0<e.v/\e={ bN with k:=3,v:=e.v })/\(e.k=4->e.x.length<=300/\e={ bN with k:=4,v:=e.v,x:=e.x }/\(e3 e.x).2.1=0):=by
 unfold bR at h;split at h
 ·cases h
 ·rename_i s;have l:0<=e.v/\e.v<=1073741824:=by omega
  refine⟨l.1,l.2,?_⟩;by_cases m:e.k=1
  ·rw[af m]at h;simp only[aM,bK,lj]at h;refine⟨by omega,by omega,λ_ => ?_,(λj=>by omega),(λj=>by omega),(λj=>by omega)⟩;obtain⟨⟨⟨⟨⟨⟨a,b,r⟩,c⟩,d⟩,f⟩,g⟩,o⟩:=h;exact⟨a,b,r,c,d,f,g,o⟩
  ·rw[ae m]at h;by_cases n:e.k=2
   ·rw[af n]at h;simp only[aM,bK,lj]at h;exact⟨by omega,by omega,(λj=>by omega),λ_=>⟨h.1.1,h.1.2,h.2⟩,(λj=>by omega),(λj=>by omega)⟩
   ·rw[ae n]at h;by_cases p:e.k=3
    ·rw[af p]at h;simp only[aM,bK]at h;exact⟨by omega,by omega,(λj=>by omega),(λj=>by omega),λ_=>h,(λj=>by omega)⟩
    ·rw[ae p]at h;by_cases q:e.k=4
     ·rw[af q]at h;simp only[aM,bK]at h;exact⟨by omega,by omega,(λj=>by omega),(λj=>by omega),(λj=>by omega),λ_=>⟨h.1.1,h.1.2,h.2⟩⟩
     ·rw[ae q]at h;cases h
theorem Ot{e:bM}(h:bR e=true)(o:nI e):∀n∈dU e,n<2 ^ 64:=by
 obtain⟨_,_,_,_,d,g,_,j⟩:=eN h;have:=o.2;intro n c;unfold dU at c;split at c
 ·rename_i k;have:=d k;simp at c;rcases c with rfl | rfl | rfl | rfl | rfl<;>omega
 ·split at c
  ·rename_i k;have:=g k;simp at c;omega
  ·split at c
   ·rename_i k;have:=j k;simp at c;omega
   ·cases c
theorem vQ{e:bM}(h:e.x.length<=300):(bF e).length<=400:=by
 have a:=aX e.v.toNat;have b:=ma (dU e);have c:=qO e;simp[bF];omega
theorem j9{e:bM}(h:bR e=true):e.x.length<=300:=by
 obtain⟨_,_,j,l,d,f,g,i⟩:=eN h;by_cases a:e.k=1
 ·rw[(d a).1];simp
 ·by_cases b:e.k=2
  ·rw[(f b).2.2];simp[bN]
  ·by_cases c:e.k=3
   ·rw[(g c).2];simp[bN]
   ·exact(i (by omega)).1
theorem E9(d:Nat)(m:s.wf){e:bM}(h:bR e=false):∃t,R (d+9) 133 [AE e] s=some (.c6 [.s .av,.s (.int .i64 1)],t)/\Gr s t:=by
 rw[Ba];unfold f133;obtain⟨s1,a⟩:=aZ (s.push (.K true (cE e)));have b:aE s (b6 (AE e))=some (Z (.ptr s.size 0),s1):=by rw[a];rfl
 have f:Gr s s1:=by rw[a];exact Gr.push m _
 have j:s1.get s.size=some (.K true (cE e)):=by rw[a];exact St.ec
 have k:=eA (g:=s1.get) j;obtain⟨l,c,i⟩:=vB d f.wf e;rw[h]at c;exact⟨l,by simp[b,k,c,aD,a8],f.trans i⟩
theorem Fa(d:Nat)(SC:s.wf){e:bM}(h:bR e=true)(hw:nI e):∃y t,R (d+9) 133 [AE e] s=some (.c6 [.s y,.s (iz)],t)/\FB s t y (bF e):=by
 rw[Ba];unfold f133;obtain⟨r1,r2,r3,r4,Sp,Sr,Sw,Sx⟩:=eN h;obtain⟨s1,F⟩:=aZ (s.push (.K true (cE e)));have H:aE s (b6 (AE e))=some (Z (.ptr s.size 0),s1):=by rw[F];rfl
 have g1:Gr s s1:=by rw[F];exact Gr.push SC _
 have h1:s1.get s.size=some (.K true (cE e)):=by rw[F];exact St.ec
 have z1:s1.size=s.size+1:=by rw[F];rfl
 have l8:=eA (g:=s1.get) h1;obtain⟨q,W,O⟩:=vB d g1.wf e;rw[h]at W;have h2:q.get s.size=some (.K true (cE e)):=O.get h1 g1.wf;have SA:s.size+1<=q.size:=by have:=O.2.1;omega
 have lk:aa (Z (.ptr s.size 0)) q.get=some (J e.k):=ag h2 rfl
 have wk:IntKind.u8.wrap e.k=((UInt8.ofNat e.k.toNat).toNat:Int):=by
  have:=gx e.k.toNat;rw[show(e.k.toNat:Int)=e.k by omega]at this;rw[this,ey]
 obtain⟨p,Sj⟩:=aZ (UInt8.ofNat e.k.toNat);rw[<-Sj]at wk;obtain⟨s4,Sk⟩:=aZ (q.push (.K true (U [p])));have I:aE q (aN 1 (aA [.int .u8 0] [(0,1,J8 p.toNat)]))=some (Z (.sl q.size 0 1 (.known 1)),s4):=by rw[Sk,KO];rfl
 have f4:FB q s4 (.sl q.size 0 1 (.known 1)) [p]:=by rw[Sk];exact Fr.lit 1 O.wf rfl
 have h4:s4.get s.size=some (.K true (cE e)):=f4.gr.get h2 O.wf;have lv:aa (Z (.ptr s.size 1)) s4.get=some (J e.v):=ag h4 rfl;have wv:IntKind.u64.wrap e.v=(e.v.toNat:Int):=by rw[bH _ (by omega) (by omega)];omega
 obtain⟨y5,s5,X,f5⟩:=fZ (d+7) f4.gr.wf e.v.toNat (by omega);have h5:s5.get s.size=some (.K true (cE e)):=f5.gr.get h4 f4.gr.wf;have G:aa (Z (.ptr s.size 0)) s5.get=some (J e.k):=ag h5 rfl;have E:cl 8 s5.get (wC 3 q.size (aN 1 (aA [.int .u8 0] [(0,1,J8 p.toNat)])) [])=s5.get:=rfl;have f45:FB q s5 (.sl q.size 0 1 (.known 1)) [p]:=f4.j6 f5.gr;obtain⟨V,s6,C,T,z6,k6,n6⟩:=FB.MF f45 f5.rd (by have:=aX e.v.toNat;simp;omega);have h6:s6.get s.size=some (.K true (cE e)):=T.gr.get h2 O.wf;have w:([p]++aq e.v.toNat).length<=1000:=by have:=aX e.v.toNat;simp;omega
 have L:∀(j:Nat) (x:S),(cE e)[j]? = some x->aa (Z (.ptr s.size j)) s6.get=some (Z x):=λj x hx=>ag h6 hx
 have Sn:=L 0 _ rfl;have l2:=L 2 _ rfl;have l3:=L 3 _ rfl;have l4:=L 4 _ rfl;have l5:=L 5 _ rfl;have l6:=L 6 _ rfl;have l7:=L 7 _ rfl
 have D:∀(z:S) (b:St),FB q b z ([p]++aq e.v.toNat++dc (dU e))->∃y t,aa (Z (.ptr s.size 7)) b.get=some (Z (.str e.x))/\aF 1 1 (Z z) (Z (.str e.x)) b=some (Z y,t)/\FB s t y (bF e):=λz b A=>by
  have hx:=j9 h;have hn:=ma (dU e);have Sy:=qO e;obtain⟨y,t,Sv,a,_⟩:=FB.Pw (cs:=e.x) A (by simp at w ⊢;omega);refine⟨y,t,ag (A.gr.get h2 O.wf) rfl,Sv,?_⟩;have e1:[p]++aq e.v.toNat++dc (dU e)++e.x=bF e:=by rw[Sj];simp[bF]
  rw[e1]at a;exact a.from (g1.trans O)
 have Ss:=Ot h hw;have Su:=qO e;have Sl:∀c,own V=some c->c<s6.size:=λc Y=>(T.new c Y).2
 have num:∀n,n=(dU e).length->∃z b,loops (ju (R (d+8)) 8192) 8192 [Z (.ptr s.size 0),Z V,Z (.sl s6.size 0 n (.known n)),J (n:Nat),J 0] (s6.push (.K true (rf (dU e))))=some (.exit 1 [Z (.ptr s.size 0),Z z],b)/\FB q b z ([p]++aq e.v.toNat++dc (dU e)):=λn hn=>by
  subst hn;have L:=Fr.lit 1 T.gr.wf (n:=(dU e).length) (vs:=rf (dU e)) (by simp)
  exact xQ (d+7) (v0:=Z (.ptr s.size 0)) (T.j6 L.gr) L.rd (λc Y=>by
   cases Y;exact⟨by simp,(λe=>by have:=Sl _ e;omega),by have:=T.gr.2.1;omega⟩) Ss Su w
 simp only[aH,Nat.reduceAdd]at X;by_cases N:e.k=1
 ·have ns:dU e=[e.i.toNat,e.t.toNat,e.f.toNat,e.o.toNat,e.u.toNat]:=by unfold dU;rw[af N]
  obtain⟨_,SB,i2,t1,t2,q1,q2,q3⟩:=Sp N;have hu:=hw.1;have Sz:=hw.2;have w2:IntKind.u64.wrap e.i=(e.i.toNat:Int):=by rw[bH _ (by omega) (by omega)];omega
  have w3:IntKind.u64.wrap e.t=(e.t.toNat:Int):=by rw[bH _ (by omega) (by omega)];omega
  have w4:IntKind.u64.wrap e.f=(e.f.toNat:Int):=by rw[bH _ (by omega) (by omega)];omega
  have w5:IntKind.u64.wrap e.o=(e.o.toNat:Int):=by rw[bH _ (by omega) (by omega)];omega
  have w6:IntKind.u64.wrap e.u=(e.u.toNat:Int):=by rw[bH _ (by omega) (by omega)];omega
  obtain⟨z,b,M,A⟩:=num 5 (by rw[ns];rfl);obtain⟨y,t,lx,l,a⟩:=D z b A
  have B:aE s6 (aN 5 (aA [.int .u64 0,.int .u64 0,.int .u64 0,.int .u64 0,.int .u64 0] [(0,1,J6 (e.i.toNat:Int)),(1,1,J6 (e.t.toNat:Int)),(2,1,J6 (e.f.toNat:Int)),(3,1,J6 (e.o.toNat:Int)),(4,1,J6 (e.u.toNat:Int))])) =
   some (Z (.sl s6.size 0 5 (.known 5)),s6.push (.K true (rf (dU e)))):=by rw[ns];rfl
  refine⟨y,t,?_,a⟩;generalize s6.push (.K true (rf (dU e)))=s7,R (d+8)=r,(e.i.toNat:Int)=A2,(e.t.toNat:Int)=A3,(e.f.toNat:Int)=A4,(e.o.toNat:Int)=A5,(e.u.toNat:Int)=A6,(e.v.toNat:Int)=A1,(p.toNat:Int)=KB at*;have m:IntKind.u8.wrap 1=KB:=by rw[<-N];exact wk
  have P:loops (ju r 8192) 8192 [Z (.ptr s.size 0),Z V,Z (.sl s6.size 0 5 (.known 5)),J 5,J 0] s7=some (.exit 1 [Z (.ptr s.size 0),Z z],b):=M;simp[H,l8,W,lk,N,m,I,lv,wv,X,C,E,G,Sn,l2,l3,l4,l5,l6,w2,w3,w4,w5,w6,B,P,lx,l,aD,a8]
 ·by_cases Q:e.k=2
  ·have ns:dU e=[e.i.toNat]:=by unfold dU;rw[ae N,af Q]
   obtain⟨SB,i2,_⟩:=Sr Q;have w2:IntKind.u64.wrap e.i=(e.i.toNat:Int):=by rw[bH _ (by omega) (by omega)];omega
   obtain⟨z,b,M,A⟩:=num 1 (by rw[ns];rfl);obtain⟨y,t,lx,l,a⟩:=D z b A;have B:aE s6 (aN 1 (aA [.int .u64 0] [(0,1,J6 (e.i.toNat:Int))]))=some (Z (.sl s6.size 0 1 (.known 1)),s6.push (.K true (rf (dU e)))):=by rw[ns];rfl
   refine⟨y,t,?_,a⟩;generalize s6.push (.K true (rf (dU e)))=s7,R (d+8)=r,(e.i.toNat:Int)=A2,(e.v.toNat:Int)=A1,(p.toNat:Int)=KB at*;have m:IntKind.u8.wrap 2=KB:=by rw[<-Q];exact wk
   have P:loops (ju r 8192) 8192 [Z (.ptr s.size 0),Z V,Z (.sl s6.size 0 1 (.known 1)),J 1,J 0] s7=some (.exit 1 [Z (.ptr s.size 0),Z z],b):=M;simp[H,l8,W,lk,Q,m,I,lv,wv,X,C,E,G,Sn,l2,w2,B,P,lx,l,aD,a8]
  ·by_cases Sm:e.k=4
   ·have ns:dU e=[e.x.length]:=(by unfold dU;rw[ae N,ae Q,af Sm]);have hx:=j9 h;have w2:IntKind.u64.wrap (e.x.length:Int)=(e.x.length:Int):=wrap64 _ (by omega);obtain⟨z,b,M,A⟩:=num 1 (by rw[ns];rfl);obtain⟨y,t,lx,l,a⟩:=D z b A;have B:aE s6 (aN 1 (aA [.int .u64 0] [(0,1,J6 (e.x.length:Int))]))=some (Z (.sl s6.size 0 1 (.known 1)),s6.push (.K true (rf (dU e)))):=(by rw[ns];rfl);refine⟨y,t,?_,a⟩;generalize s6.push (.K true (rf (dU e)))=s7,R (d+8)=r,(e.v.toNat:Int)=A1,(p.toNat:Int)=KB at*;have m:IntKind.u8.wrap 4=KB:=(by rw[<-Sm];exact wk);have P:loops (ju r 8192) 8192 [Z (.ptr s.size 0),Z V,Z (.sl s6.size 0 1 (.known 1)),J 1,J 0] s7=some (.exit 1 [Z (.ptr s.size 0),Z z],b):=M;simp[H,l8,W,lk,Sm,m,I,lv,wv,X,C,E,G,Sn,l7,w2,B,P,lx,l,aD,a8]
   ·have c3:e.k=3:=(by omega);have ns:dU e=[]:=(by unfold dU;rw[ae N,ae Q,ae Sm]);obtain⟨z,b,M,A⟩:=xQ (x := .av) (ns:=[]) (d+7) (v0:=Z (.ptr s.size 0)) T (Rd.nil 1 _) (λc Y=>by cases Y) (λn hn=>by cases hn) (by simp) w;rw[<-ns]at A;obtain⟨y,t,lx,l,a⟩:=D z b A;refine⟨y,t,?_,a⟩;simp only[aH,Nat.reduceAdd]at M;generalize R (d+8)=r,(e.v.toNat:Int)=A1,(p.toNat:Int)=KB at*;have m:IntKind.u8.wrap 3=KB:=(by rw[<-c3];exact wk);have P:loops (ju r 8192) 8192 [Z (.ptr s.size 0),Z V,Z .av,J 0,J 0] s6=some (.exit 1 [Z (.ptr s.size 0),Z z],b):=M;simp[H,l8,W,lk,c3,m,I,lv,wv,X,C,E,G,Sn,P,lx,l,aD,a8]
end
def nZ(bs:Bs)(most at_:Nat)(bad:Bool):Nat×Nat×Bool:=match fY bs at_ with
 |some (n,e)=>(min n most,e,bad||decide (most<n))
 |none=>(0,at_,true)
def cD(bs:Bs)(c:UInt8):Option (bM×Bool):=
 let p:=nZ bs 1073741824 1 false
 let a:bM:={ bN with k:=c.toNat,v:=(p.1:Nat) }
 if c.toNat=1 then
  let i:=nZ bs 1073741824 p.2.1 p.2.2
  let t:=nZ bs 4 i.2.1 i.2.2
  let f:=nZ bs 1099511627776 t.2.1 t.2.2
  let o:=nZ bs 1099511627776 f.2.1 f.2.2
  let u:=nZ bs 4294967295 o.2.1 o.2.2
  some ({ a with i:=(i.1:Nat),t:=(t.1:Nat),f:=(f.1:Nat),o:=(o.1:Nat),u:=(u.1:Nat) },u.2.2)
 else if c.toNat=2 then
  let i:=nZ bs 1073741824 p.2.1 p.2.2
  some ({ a with i:=(i.1:Nat) },i.2.2)
 else if c.toNat=4 then
  let m:=nZ bs 300 p.2.1 p.2.2
  if m.2.2=true\/bs.length<m.2.1+m.1 then none else some ({ a with x:=(bs.drop m.2.1).take m.1 },m.2.2)
 else some (a,p.2.2)
def mB(bs:Bs):Option bM:=match bs with
 | []=>none
 |c::_=>match cD bs c with
  |none=>none
  |some (e,bad)=>if bad=false/\ct e=some bs then some e else none
section
variable {s t:St}{x y:S}{bs cs:Bs}{i:Nat}
theorem Dr{bs:Bs}{most at_:Nat}{bad:Bool}:(nZ bs most at_ bad).1<=most:=by
 unfold nZ;split
 ·exact Nat.min_le_right _ _
 ·exact cc _
theorem PV{bs:Bs}{most at_:Nat}{bad:Bool}(h:at_<=bs.length):(nZ bs most at_ bad).2.1<=bs.length:=by
 unfold nZ;split
 ·rename_i n e a;exact(mT a).2
 ·exact h
theorem qh(d:Nat)(h:RB s x bs)(k:RB s y cs):R (d+1) 122 [Z x,Z y] s=some (B (decide (bs=cs)),s):=by
 rw[Jl];unfold f122;simp[h.str,k.str]
structure w6(s0 s:St)(x:S)(bs:Bs)(at_:Nat)(bad:Bool):Prop where
 gr:Gr s0 s
 ge:s0.size+4<=s.size
 c1:s.get s0.size=some (.K true [x])
 c2:s.get (s0.size+1)=some (.K true (cE bN))
 c4:s.get (s0.size+2)=some (.K true [.int .i64 at_])
 c5:s.get (s0.size+3)=some (.K true [.bool bad])
 le:at_<=bs.length
theorem w6.set{s0:St}{at_:Nat}{bad:Bool}(h:w6 s0 s x bs at_ bad){b:Nat}(e:s0.size+4<=b)(a:b<s.size)(v:er):w6 s0 (s.set b v) x bs at_ bad:=
 ⟨⟨St.wf_set h.gr.wf a _,by simpa using h.gr.2.1,λc d=>by rw[St.bO (by omega)];exact h.gr.2.2 c d⟩,by simpa using h.ge,by rw[St.bO (by omega)];exact h.c1,by rw[St.bO (by omega)];exact h.c2,
  by rw[St.bO (by omega)];exact h.c4,by rw[St.bO (by omega)];exact h.c5,h.le⟩
theorem w6.j6{s0:St}{at_:Nat}{bad:Bool}(h:w6 s0 s x bs at_ bad)(g:Gr s t):w6 s0 t x bs at_ bad:=by
 have:=h.ge;exact⟨h.gr.trans g,bl h.ge g.2.1,by rw[g.2.2 _ (by omega)];exact h.c1,by rw[g.2.2 _ (by omega)];exact h.c2,by rw[g.2.2 _ (by omega)];exact h.c4,by rw[g.2.2 _ (by omega)];exact h.c5,h.le⟩
theorem K4(d:Nat){s0:St}{at_:Nat}{bad:Bool}(h:w6 s0 s x bs at_ bad)(hx:RB s0 x bs)(Q:∀c,own x=some c->c<s0.size)(hl:bs.length<=8000)(most:Nat)(Sk:most<2 ^ 63) :
 ∃t,R (d+2) 132 [J6 (most:Nat),Z (.ptr s0.size 0),Z (.ptr (s0.size+2) 0),Z (.ptr (s0.size+3) 0)] s=some (J (nZ bs most at_ bad).1,t)/\w6 s0 t x bs (nZ bs most at_ bad).2.1 (nZ bs most at_ bad).2.2/\t.size=s.size ∧
  ∀b,b≠s0.size+2->b≠s0.size+3->t.get b=s.get b:=by
 rw[Jo];unfold f132;have Sj:=h.ge;have y:=h.le;have rx:RB s x bs:=hx.gr Q h.gr;have D:aa (Z (.ptr s0.size 0)) s.get=some (Z x):=ag h.c1 rfl;have E:aa (Z (.ptr (s0.size+2) 0)) s.get=some (J at_):=ag h.c4 rfl;have F:aa (Z (.ptr (s0.size+3) 0)) s.get=some (B bad):=ag h.c5 rfl;have r:=rk d rx (by omega) (at_:=at_) (by omega);obtain⟨N,z⟩:=aZ (nZ bs most at_ bad);rw[<-z];obtain⟨u,o⟩:=aZ (s.set (s0.size+3) (.K true [.bool N.2.2]));have j:aj 1 (Z (.ptr (s0.size+3) 0)) (B N.2.2) s=some (tt,u):=by rw[o];exact aJ h.c5 (by simp)
 have G:u.get (s0.size+2)=some (.K true [.int .i64 at_]):=by rw[o,St.bO (by omega)];exact h.c4
 obtain⟨w,q⟩:=aZ (u.set (s0.size+2) (.K true [.int .i64 N.2.1]));have k:aj 1 (Z (.ptr (s0.size+2) 0)) (J N.2.1) u=some (tt,w):=by rw[q];exact aJ G (by simp)
 have z1:u.size=s.size:=by rw[o];rfl
 have T:w.size=s.size:=by rw[q];exact z1
 have w1:u.wf:=by rw[o];exact St.wf_set h.gr.wf (by omega) _
 have w2:w.wf:=by rw[q];exact St.wf_set w1 (by omega) _
 have keep:∀b,b≠s0.size+2->b≠s0.size+3->w.get b=s.get b:=λb V X=>by rw[q,St.bO V,o,St.bO X]
 have I:N.2.1<=bs.length:=by rw[z];exact PV y
 have H:w6 s0 w x bs N.2.1 N.2.2:=⟨⟨w2,by rw[T];exact h.gr.2.1,λb Y=>by rw[keep b (by omega) (by omega)];exact h.gr.2.2 b Y⟩,by omega,by rw[keep _ (by omega) (by omega)];exact h.c1,by rw[keep _ (by omega) (by omega)];exact h.c2,
  by rw[q];exact St.dh,by rw[q,St.bO (by omega),o];exact St.dh,I⟩
 refine⟨w,?_,H,T,keep⟩;cases C:fY bs at_ with
 |none=>
  have O:N=(0,at_,true):=by rw[z];unfold nZ;rw[C]
  rw[C]at r;simp only[mf,af y]at r;rw[O]at j k ⊢;have g:min (0:Int) (most:Int)=0:=by omega
  have w0:IntKind.i64.wrap 0=0:=rfl;cases bad with
  |true=>simp[D,E,r,ai,F,bD,j,k,g,w0]
  |false=>simp[D,E,r,ai,F,bD,j,k,g,w0]
 |some p=>
  obtain⟨n,e⟩:=p;have O:N=(min n most,e,bad||decide (most<n)):=by rw[z];unfold nZ;rw[C]
  rw[C]at r;simp only[mf]at r;rw[O]at j k ⊢;have g:min (n:Int) (most:Int)=((min n most:Nat):Int):=by omega
  have S:IntKind.i64.wrap ((min n most:Nat):Int)=((min n most:Nat):Int):=aw _ (by omega) (by omega);have U:decide ((most:Int)<(n:Int))=decide (most<n):=decide_eq_decide.2 (by omega);cases bad with
  |true=>simp[D,E,r,ai,F,bD,k,g,S]at j ⊢;simp[j,k]
  |false=>simp[D,E,r,ai,F,bD,k,g,S,U]at j ⊢;simp[j,k]
noncomputable def mD(aC:bc)(a:List T)(f:St):Option (T×St):=
 bd (ay 8 (vq a 3) f.get) λn=>
 ax (aC 133 [n] f) λi c=>
 bd (ai i 0) λo=>
 bd (ai i 1) λp=>
 bd (aa (vq a 2) c.get) λe=>
 bd (gF e (some p)) λq=>
 bd (gF e (ah .neq q (J 0))) λr=>
 bd (pT e r) λb=>
 bd (gF b (some o)) λs=>
 bd (gF b (aa (vq a 0) c.get)) λt=>
 ax (gS (gd b false) c (aC 122 [s,t] c)) λu d=>
 bd (gF b (gH .not u)) λv=>
 bd (pT b v) λw=>
 br w (bd (aO (aA [iz,iz,iz,iz,iz,iz,.int .u32 0,.str []] [])) λx=>
 ax (aj 8 (vq a 1) x d) λ_ g=>
 bd (rC (ay 8 (vq a 1) g.get) (rT (J 2) (some []))) λj=>bd (aD j) λl=>
 some (l,g))
 (bd (ay 8 (vq a 3) d.get) λy=>
 ax (aj 8 (vq a 1) y d) λ_ h=>
 bd (rC (ay 8 (vq a 1) h.get) (rT (J 0) (some []))) λk=>bd (aD k) λm=>
 some (m,h))
abbrev qZ(o:Option bM):T:=match o with
 |some e => .c6 [.agg (cE e),.s (iz)]
 |none => .c6 [.agg (cE bN),.s (.int .i64 2)]
theorem L9(d:Nat){s0:St}{at_:Nat}{bad:Bool}{e:bM}(h:w6 s0 s x bs at_ bad)(X:RB s0 x bs)(O:∀c,own x=some c->c<s0.size)(Y:s.size=s0.size+5)(T:s.get (s0.size+4)=some (.K true (cE e)))(V:nI e) :
 ∃τ,mD (R (d+9)) [Z (.ptr s0.size 0),Z (.ptr (s0.size+1) 0),Z (.ptr (s0.size+3) 0),Z (.ptr (s0.size+4) 0)] s=some (qZ (if bad=false/\ct e=some bs then some e else none),τ)/\Gr s0 τ:=by
 have H:=eA (g:=s.get) T;unfold mD
 have F:∀u,Gr s u->aa (Z (.ptr (s0.size+3) 0)) u.get=some (B bad)/\aa (Z (.ptr s0.size 0)) u.get=some (Z x)/\RB u x bs/\ay 8 (Z (.ptr (s0.size+4) 0)) u.get=some (AE e) ∧
  (∀t,aj 8 (Z (.ptr (s0.size+1) 0)) (AE t) u=some (tt,u.set (s0.size+1) (.K true (cE t)))/\ay 8 (Z (.ptr (s0.size+1) 0)) (u.set (s0.size+1) (.K true (cE t))).get=some (AE t)/\Gr s0 (u.set (s0.size+1) (.K true (cE t)))):=λu g=>by
  have j:=h.j6 g;have N:u.get (s0.size+4)=some (.K true (cE e)):=by rw[g.2.2 _ (by omega)];exact T
  refine⟨ag j.c5 rfl,ag j.c1 rfl,X.gr O j.gr,eA N,λt=>⟨js j.c2 rfl,eA (St.dh),⟨St.wf_set j.gr.wf (by have:=j.ge;omega) _,by simpa using j.gr.2.1,λb C=>by rw[St.bO (by omega)];exact j.gr.2.2 b C⟩⟩⟩
 cases I:bR e with
 |false=>
  obtain⟨u,w,U⟩:=E9 d h.gr.wf I;obtain⟨z,J,f3,Q,E⟩:=F u U;obtain⟨n,o,q⟩:=E bN;have G:¬(bad=false/\ct e=some bs):=λD=>by simp[ct,I]at D
  rw[ae G];refine⟨_,?_,q⟩;generalize R (d+9)=r at*;cases bad with
  |true=>simp[H,w,ai,z,bD,uS,n,o,rC,rT,aD,a8]
  |false=>simp[H,w,ai,z,bD,uS,n,o,rC,rT,aD,a8]
 |true=>
  obtain⟨y,u,w,S⟩:=Fa d h.gr.wf I V;obtain⟨z,J,f3,Q,E⟩:=F u S.gr;have eq:=qh (d+8) S.rd f3;have k:ct e=some (bF e):=by simp[ct,I]
  simp only[aH,Nat.reduceAdd]at eq;cases bad with
  |true=>
   obtain⟨n,o,q⟩:=E bN;have G:¬(true=false/\ct e=some bs):=λD=>by simp at D
   rw[ae G];refine⟨_,?_,q⟩;generalize R (d+9)=r at*;simp[H,w,ai,z,bD,uS,n,o,rC,rT,aD,a8]
  |false=>
   by_cases C:bF e=bs
   ·obtain⟨n,o,q⟩:=E e;rw[af ⟨rfl,by rw[k,C]⟩];rw[aK C]at eq;refine⟨_,?_,q⟩;generalize R (d+9)=r at*;simp[H,w,ai,z,J,Q,eq,n,o,rC,rT,aD,a8]
   ·obtain⟨n,o,q⟩:=E bN
    have G:¬(false=false/\ct e=some bs):=λD=>by
     rw[k]at D;exact C (by simpa using D.2)
    rw[ae G];rw[aR C]at eq;refine⟨_,?_,q⟩;generalize R (d+9)=r at*;simp[H,w,ai,z,J,eq,uS,n,o,rC,rT,aD,a8]
theorem MU{aC:bc}{f a b c:Nat}{args:List T}{σ:St}(h:fO Tryz.prog f=true):dyn Tryz.prog aC (Z (.jX f [(a,0),(b,0),(c,0)])) args σ=aC f (args++[Z (.ptr a 0),Z (.ptr b 0),Z (.ptr c 0)]) σ:=by
 simp[dyn,h,yF]
theorem NZ(d:Nat)(Uj:s.wf)(hx:RB s x bs)(SV:∀c,own x=some c->c<s.size)(hl:bs.length<=8000):∃τ,R (d+10) 94 [Z x] s=some (qZ (mB bs),τ)/\Gr s τ:=by
 rw[NR];unfold f94;obtain⟨n,hn⟩:=aZ (s.size);obtain⟨s1,S0⟩:=aZ (s.push (.K true [x]));have SA:aE s (b6 (Z x))=some (Z (.ptr n 0),s1):=by rw[S0,hn];rfl
 have g1:Gr s s1:=by rw[S0];exact Gr.push Uj _
 have z1:s1.size=n+1:=by rw[S0,hn];rfl
 have b1:s1.get n=some (.K true [x]):=by rw[S0,hn];exact St.ec
 obtain⟨s2,S1⟩:=aZ (s1.push (.K true (cE bN)));have SB:aE s1 (a6 [iz,iz,iz,iz,iz,iz,.int .u32 0,.str []])=some (Z (.ptr (n+1) 0),s2):=by rw[S1,<-z1];rfl
 have g2:Gr s1 s2:=by rw[S1];exact Gr.push g1.wf _
 have z2:s2.size=n+2:=by rw[S1];simp[z1]
 have b2:s2.get (n+1)=some (.K true (cE bN)):=by rw[S1,<-z1];exact St.ec
 have Th:s2.get n=some (.K true [x]):=by rw[g2.2.2 n (by omega)];exact b1
 have Sy:aa (Z (.ptr n 0)) s2.get=some (Z x):=ag Th rfl;have SU:=hx.r9;cases SS:bs with
 |nil=>
  rw[SS]at SU;have st:=js (e:=bN) b2 rfl;have ld:=eA (g:=(s2.set (n+1) (.K true (cE bN))).get) (i:=n+1) (e:=bN) (St.dh);refine⟨s2.set (n+1) (.K true (cE bN)),?_,⟨St.wf_set g2.wf (by omega) _,by simp;omega,λb S6=>by rw[St.bO (by omega),g2.2.2 b (by omega),g1.2.2 b S6]⟩⟩;generalize s2.set (n+1) (.K true (cE bN))=s3 at*;simp[SA,SB,Sy,SU,uS,st,ld,rC,rT,aD,a8,mB]
 |cons c0 Ua=>
  have S7:0<bs.length:=by rw[SS];simp
  obtain⟨s6,S2⟩:=aZ (s2.push (.K true [iz]));have SL:aE s2 (a6 [iz])=some (Z (.ptr (n+2) 0),s6):=by rw[S2,<-z2];rfl
  have g6:Gr s2 s6:=by rw[S2];exact Gr.push g2.wf _
  have z6:s6.size=n+3:=by rw[S2];simp[z2]
  have Ub:s6.get (n+2)=some (.K true [iz]):=by rw[S2,<-z2];exact St.ec
  obtain⟨s7,S3⟩:=aZ (s6.push (.K true [.bool false]));have SM:aE s6 (a6 [.bool false])=some (Z (.ptr (n+3) 0),s7):=by rw[S3,<-z6];rfl
  have g7:Gr s6 s7:=by rw[S3];exact Gr.push g6.wf _
  have z7:s7.size=n+4:=by rw[S3];simp[z6]
  have b7:s7.get (n+3)=some (.K true [.bool false]):=by rw[S3,<-z6];exact St.ec
  have TK:s7.get (n+2)=some (.K true [iz]):=by rw[g7.2.2 _ (by omega)];exact Ub
  obtain⟨s8,Sx⟩:=aZ (s7.set (n+2) (.K true [.int .i64 1]));have SN:aj 1 (Z (.ptr (n+2) 0)) (J 1) s7=some (tt,s8):=by rw[Sx];exact aJ TK (by simp)
  have TL:s8.get (n+3)=some (.K true [.bool false]):=by rw[Sx,St.bO (by omega)];exact b7
  obtain⟨s9,SK⟩:=aZ (s8.set (n+3) (.K true [.bool false]));have SO:aj 1 (Z (.ptr (n+3) 0)) (B false) s8=some (tt,s9):=by rw[SK];exact aJ TL (by simp)
  have z9:s9.size=n+4:=by rw[SK,Sx];simpa using z7
  have T5:s8.wf:=by rw[Sx];exact St.wf_set g7.wf (by omega) _
  have T6:s9.wf:=by rw[SK];exact St.wf_set T5 (by rw[Sx];simp[z7]) _
  have SW:∀b,b<n+2->s9.get b=s2.get b:=λb S6=>by rw[SK,St.bO (by omega),Sx,St.bO (by omega),g7.2.2 b (by omega),g6.2.2 b (by omega)]
  have SP:w6 s s9 x bs 1 false:=by
   refine⟨⟨T6,by omega,λb S6=>by rw[SW b (by omega),g2.2.2 b (by omega),g1.2.2 b S6]⟩,by omega,by rw[<-hn,SW _ (by omega)];exact Th,by rw[<-hn,SW _ (by omega)];exact b2,?_,by rw[<-hn,SK];exact St.dh,by omega⟩;rw[<-hn,SK,St.bO (by omega),Sx];exact St.dh
  have Sz:aa (Z (.ptr n 0)) s9.get=some (Z x):=by rw[hn];exact ag SP.c1 rfl
  have TD:RB s9 x bs:=hx.gr SV SP.gr;have TS:bs[0]? = some c0:=by rw[SS];rfl
  obtain⟨p0,Sl,Ss⟩:=RB.H9 TD (n:=0) (j:=0) rfl TS;have jX:tJ 132 [Z (.ptr n 0),Z (.ptr (n+2) 0),Z (.ptr (n+3) 0)] []=some (Z (.jX 132 [(n,0),(n+2,0),(n+3,0)])):=rfl;have Tu:fO Tryz.prog 132=true:=by kernel_rfl
  have dy:∀(r:bc) (m:Int) (u:St),dyn Tryz.prog r (Z (.jX 132 [(n,0),(n+2,0),(n+3,0)])) [J6 m] u=r 132 [J6 m,Z (.ptr n 0),Z (.ptr (n+2) 0),Z (.ptr (n+3) 0)] u:=λr m u=>MU Tu
  have SC:∀(u:St) (a:Nat) (bad:Bool) (most:Nat),w6 s u x bs a bad->most<2 ^ 63->∃t,R (d+9) 132 [J6 (most:Nat),Z (.ptr n 0),Z (.ptr (n+2) 0),Z (.ptr (n+3) 0)] u=some (J (nZ bs most a bad).1,t)/\w6 s t x bs (nZ bs most a bad).2.1 (nZ bs most a bad).2.2/\t.size=u.size ∧
   ∀b,b≠n+2->b≠n+3->t.get b=u.get b:=λu a bad most hc TU=>by
   have:=K4 (d+7) hc hx SV hl most TU;rw[<-hn]at this;exact this
  obtain⟨U,SQ,Sv,Uk,TX⟩:=SC s9 1 false 1073741824 SP (by decide);obtain⟨P,hP⟩:=aZ (nZ bs 1073741824 1 false);rw[<-hP]at SQ Sv;obtain⟨Cl,SE⟩:=aZ (U.push (.K true (cE bN)));have Sn:aE U (a6 [iz,iz,iz,iz,iz,iz,.int .u32 0,.str []])=some (Z (.ptr (n+4) 0),Cl):=by rw[SE,show n+4=U.size by omega];rfl
  have TR:Gr U Cl:=by rw[SE];exact Gr.push Sv.gr.wf _
  have T7:Cl.size=n+5:=by rw[SE];simp;omega
  have TJ:Cl.get (n+4)=some (.K true (cE bN)):=by rw[SE,show n+4=U.size by omega];exact St.ec
  obtain⟨e0,Sw⟩:∃e0:bM,e0={ bN with k:=c0.toNat,v:=(P.1:Nat) }:=⟨_,rfl⟩;have Su:aO (aA [iz,iz,iz,iz,iz,iz,.int .u32 0,.str []] [(0,1,J (c0.toNat:Int)),(1,1,J (P.1:Int))])=some (AE e0):=by rw[Sw];rfl
  obtain⟨O,SF⟩:=aZ (Cl.set (n+4) (.K true (cE e0)));have Sk:=js (e:=e0) TJ rfl;rw[<-SF]at Sk;have Ta:w6 s O x bs P.2.1 P.2.2:=by rw[SF];exact(Sv.j6 TR).set (by omega) (by omega) _
  have T8:O.size=n+5:=by rw[SF];simpa using T7
  have Ti:O.get (n+4)=some (.K true (cE e0)):=by rw[SF];exact St.dh
  have Sj:∀(q:T) (v:S),aa q s9.get=some (Z v)->(∀b o,q=Z (.ptr b o)->b<s.size\/b=n)->aa q (tQ U.get U.size (.K true [iz,iz,iz,iz,iz,iz,.int .u32 0,.str []]))=aa q s9.get:=by
   intro q v hq S6;cases q with
   |any=>cases hq
   |c6 _=>cases hq
   |v w=>cases w with
    |agg _=>cases hq
    |s w=>cases w with
     |ptr b o=>
      have Uh:=S6 b o rfl
      have e1:tQ U.get U.size (.K true [iz,iz,iz,iz,iz,iz,.int .u32 0,.str []]) b=s9.get b:=by
       rw[kP _ _ (by omega)];exact TX b (by omega) (by omega)
      simp only[aa,e1]
     |_=>cases hq
  have SG:=Sj (Z (.ptr n 0)) x Sz (λb o e=>by cases e;exact .inr rfl)
  have SH:=Sj p0 (.int .u8 c0.toNat) Ss (λb o e=>by
   subst e;rcases TD.rd with ⟨h0,_⟩ | ⟨c,o',cap,w,rows,rfl,_⟩
   ·omega
   ·have h2:=SV c rfl;simp only[ar]at Sl;split at Sl
    ·cases Sl;exact .inl h2
    ·cases Sl)
  have G:aa (Z (.ptr (n+4) 0)) O.get=some (J (c0.toNat:Int)):=ag Ti (by rw[Sw];rfl);have w0:IntKind.i64.wrap (c0.toNat:Int)=(c0.toNat:Int):=aw _ (by have:=c0.toNat_lt;omega) (by have:=c0.toNat_lt;omega);have Ui:¬((bs.length:Int)=0):=by omega
  have Tv:mB bs=match cD bs c0 with
   |none=>none
   |some (e,bad)=>if bad=false/\ct e=some bs then some e else none:=by rw[SS];rfl
  rw[<-SS,Tv]
  have V:∀(u:St) (a:Nat) (bad:Bool) (e:bM) (most:Nat),(w6 s u x bs a bad/\u.size=n+5/\u.get (n+4)=some (.K true (cE e)))->most<2 ^ 63->∃t,R (d+9) 132 [J6 (most:Nat),Z (.ptr n 0),Z (.ptr (n+2) 0),Z (.ptr (n+3) 0)] u=some (J (nZ bs most a bad).1,t) ∧
   (w6 s t x bs (nZ bs most a bad).2.1 (nZ bs most a bad).2.2/\t.size=n+5/\t.get (n+4)=some (.K true (cE e))):=λu a bad e most hq TU=>by
   obtain⟨t,e1,Uc,z,k⟩:=SC u a bad most hq.1 TU;exact⟨t,e1,Uc,by rw[z];exact hq.2.1,by rw[k _ (by omega) (by omega)];exact hq.2.2⟩
  have X:∀(u:St) (a:Nat) (bad:Bool) (e e':bM) (S4:Nat) (val:S),(w6 s u x bs a bad/\u.size=n+5/\u.get (n+4)=some (.K true (cE e)))->aQ (cE e) S4 [val]=cE e'->S4<8->∃t,aj 1 (Z (.ptr (n+4) S4)) (Z val) u=some (tt,t) ∧
   (w6 s t x bs a bad/\t.size=n+5/\t.get (n+4)=some (.K true (cE e'))):=λu a bad e e' S4 val hq hs ho=>by
   have st:=aJ (x:=val) hq.2.2 (by simpa[cE]using ho);rw[hs]at st;exact⟨_,st,hq.1.set (by omega) (by have:=hq.2.1;omega) _,by simpa using hq.2.1,St.dh⟩
  have I:∀(u:St) (a:Nat) (bad:Bool) (e:bM),(w6 s u x bs a bad/\u.size=n+5/\u.get (n+4)=some (.K true (cE e)))->nI e->∃τ,mD (R (d+9)) [Z (.ptr n 0),Z (.ptr (n+1) 0),Z (.ptr (n+3) 0),Z (.ptr (n+4) 0)] u=some (qZ (if bad=false/\ct e=some bs then some e else none),τ)/\Gr s τ:=λu a bad e hq hw=>by
   have:=L9 d hq.1 hx SV (by rw[<-hn];exact hq.2.1) (by rw[<-hn];exact hq.2.2) hw;rw[<-hn]at this;exact this
  have S5:w6 s O x bs P.2.1 P.2.2/\O.size=n+5/\O.get (n+4)=some (.K true (cE e0)):=⟨Ta,T8,Ti⟩;have Tc:nI e0:=by rw[Sw];exact⟨zZ 0,(by decide:(0:Int)<4294967296)⟩
  obtain⟨C,hC⟩:=aZ ((c0.toNat:Int));rw[<-hC]at Ss Su G w0;simp only[aG]at SU;have Q:=hx.r9;have SJ:¬bs=[]:=λe=>by rw[e]at S7;simp at S7
  by_cases k1:c0.toNat=1
  ·have d1:decide (C=1)=true:=aK (by omega);obtain⟨F,Sr,E⟩:=V O _ _ _ 1073741824 S5 (by decide);obtain⟨I1,SR⟩:=aZ (nZ bs 1073741824 P.2.1 P.2.2);rw[<-SR]at Sr E;obtain⟨SD,SI,Sp⟩:=V F _ _ _ 4 E (by decide);obtain⟨T1,Tt⟩:=aZ (nZ bs 4 I1.2.1 I1.2.2);rw[<-Tt]at SI Sp;obtain⟨TZ,TM,Tx⟩:=X SD _ _ _ { e0 with i:=(I1.1:Nat) } 2 (.int .i64 I1.1) Sp rfl (by omega);obtain⟨TE,TN,Ty⟩:=X TZ _ _ _ { e0 with i:=(I1.1:Nat),t:=(T1.1:Nat) } 3 (.int .i64 T1.1) Tx rfl (by omega);obtain⟨Tg,Tk,Td⟩:=V TE _ _ _ 1099511627776 Ty (by decide);obtain⟨F1,Tq⟩:=aZ (nZ bs 1099511627776 T1.2.1 T1.2.2);rw[<-Tq]at Tk Td;obtain⟨TF,Tm,Te⟩:=V Tg _ _ _ 1099511627776 Td (by decide);obtain⟨O1,Ts⟩:=aZ (nZ bs 1099511627776 F1.2.1 F1.2.2);rw[<-Ts]at Tm Te;obtain⟨T3,TO,Tz⟩:=X TF _ _ _ { e0 with i:=(I1.1:Nat),t:=(T1.1:Nat),f:=(F1.1:Nat) } 4 (.int .i64 F1.1) Te rfl (by omega);obtain⟨TG,TP,TA⟩:=X T3 _ _ _ { e0 with i:=(I1.1:Nat),t:=(T1.1:Nat),f:=(F1.1:Nat),o:=(O1.1:Nat) } 5 (.int .i64 O1.1) Tz rfl (by omega);obtain⟨TH,To,Tf⟩:=V TG _ _ _ 4294967295 TA (by decide);obtain⟨U1,Tb⟩:=aZ (nZ bs 4294967295 O1.2.1 O1.2.2);have Uf:U1.1<=4294967295:=by rw[Tb];exact Dr
   rw[<-Tb]at To Tf;have wU:IntKind.u32.wrap (U1.1:Int)=(U1.1:Int):=by rw[wrap32];omega
   obtain⟨T4,TQ,TB⟩:=X TH _ _ _ { e0 with i:=(I1.1:Nat),t:=(T1.1:Nat),f:=(F1.1:Nat),o:=(O1.1:Nat),u:=(U1.1:Nat) } 6 (.int .u32 (U1.1:Nat)) Tf rfl (by omega);obtain⟨τ,et,gt⟩:=I T4 _ _ _ TB ⟨by show(0:Int)<=(U1.1:Nat);omega,by show(U1.1:Int)<4294967296;omega⟩
   have N:cD bs c0=some ({ e0 with i:=(I1.1:Nat),t:=(T1.1:Nat),f:=(F1.1:Nat),o:=(O1.1:Nat),u:=(U1.1:Nat) },U1.2.2):=by
    unfold cD;rw[af k1];simp only[<-hP,<-SR,<-Tt,<-Tq,<-Ts,<-Tb,Sw]
   rw[N];refine⟨τ,?_,gt⟩;clear V X I SC Sj E Sp Tx Ty Td Te Tz TA Tf TB;generalize qZ (if U1.2.2=false/\ct { e0 with i:=(I1.1:Nat),t:=(T1.1:Nat),f:=(F1.1:Nat),o:=(O1.1:Nat),u:=(U1.1:Nat) }=some bs then some { e0 with i:=(I1.1:Nat),t:=(T1.1:Nat),f:=(F1.1:Nat),o:=(O1.1:Nat),u:=(U1.1:Nat) } else none)=S9 at*;unfold mD at et;generalize R (d+9)=r,(P.1:Int)=PV,(I1.1:Int)=IV,(T1.1:Int)=TV,(F1.1:Int)=FV,(O1.1:Int)=OV,(U1.1:Int)=UV at*;have H:r 132 [J6 1073741824,Z (.ptr n 0),Z (.ptr (n+2) 0),Z (.ptr (n+3) 0)] s9=some (J PV,U):=SQ;have Y:r 132 [J6 1073741824,Z (.ptr n 0),Z (.ptr (n+2) 0),Z (.ptr (n+3) 0)] O=some (J IV,F):=Sr;have Tj:r 132 [J6 4,Z (.ptr n 0),Z (.ptr (n+2) 0),Z (.ptr (n+3) 0)] F=some (J TV,SD):=SI;have Tl:r 132 [J6 1099511627776,Z (.ptr n 0),Z (.ptr (n+2) 0),Z (.ptr (n+3) 0)] TE=some (J FV,Tg):=Tk;have Tn:r 132 [J6 1099511627776,Z (.ptr n 0),Z (.ptr (n+2) 0),Z (.ptr (n+3) 0)] Tg=some (J OV,TF):=Tm;have Tp:r 132 [J6 4294967295,Z (.ptr n 0),Z (.ptr (n+2) 0),Z (.ptr (n+3) 0)] TG=some (J UV,TH):=To
   simpa[SA,SB,Sy,Q,SJ,SL,SM,SN,SO,jX,Sz,Sl,Ss,w0,dy,H,Su,Sn,Sk,SG,SH,G,d1,Y,Tj,TM,TN,Tl,Tn,TO,TP,Tp,wU,TQ]using et
  ·have d1:decide (C=1)=false:=aR (by omega);by_cases k2:c0.toNat=2
   ·have d2:decide (C=2)=true:=aK (by omega);obtain⟨F,Sr,E⟩:=V O _ _ _ 1073741824 S5 (by decide);obtain⟨I1,SR⟩:=aZ (nZ bs 1073741824 P.2.1 P.2.2);rw[<-SR]at Sr E;obtain⟨SD,SI,Sp⟩:=X F _ _ _ { e0 with i:=(I1.1:Nat) } 2 (.int .i64 I1.1) E rfl (by omega);obtain⟨τ,et,gt⟩:=I SD _ _ _ Sp Tc
    have N:cD bs c0=some ({ e0 with i:=(I1.1:Nat) },I1.2.2):=by
     unfold cD;rw[ae k1,af k2];simp only[<-hP,<-SR,Sw]
    rw[N];refine⟨τ,?_,gt⟩;clear V X I SC Sj E Sp;generalize qZ (if I1.2.2=false/\ct { e0 with i:=(I1.1:Nat) }=some bs then some { e0 with i:=(I1.1:Nat) } else none)=S9 at*;unfold mD at et;generalize R (d+9)=r,(P.1:Int)=PV,(I1.1:Int)=IV at*;have H:r 132 [J6 1073741824,Z (.ptr n 0),Z (.ptr (n+2) 0),Z (.ptr (n+3) 0)] s9=some (J PV,U):=SQ;have Y:r 132 [J6 1073741824,Z (.ptr n 0),Z (.ptr (n+2) 0),Z (.ptr (n+3) 0)] O=some (J IV,F):=Sr
    simpa[SA,SB,Sy,Q,SJ,SL,SM,SN,SO,jX,Sz,Sl,Ss,w0,dy,H,Su,Sn,Sk,SG,SH,G,d1,d2,Y,SI]using et
   ·have d2:decide (C=2)=false:=aR (by omega);by_cases k4:c0.toNat=4
    ·have d4:decide (C=4)=true:=aK (by omega);obtain⟨F,Sr,E⟩:=V O _ _ _ 300 S5 (by decide);obtain⟨D,SX⟩:=aZ (nZ bs 300 P.2.1 P.2.2);have Ue:D.1<=300:=(by rw[SX];exact Dr);rw[<-SX]at Sr E;have Ug:=E.1.le;have lb:aa (Z (.ptr (n+3) 0)) F.get=some (B D.2.2):=(by rw[hn];exact ag E.1.c5 rfl);have lx:aa (Z (.ptr n 0)) F.get=some (Z x):=(by rw[hn];exact ag E.1.c1 rfl);have T9:aa (Z (.ptr (n+2) 0)) F.get=some (J D.2.1):=(by rw[hn];exact ag E.1.c4 rfl);have l2:F.get (n+1)=some (.K true (cE bN)):=(by rw[hn];exact E.1.c2);have S8:IntKind.i64.wrap ((bs.length:Int)-(D.2.1:Int))=(bs.length:Int)-(D.2.1:Int):=aw _ (by omega) (by omega);have TI:IntKind.i64.wrap ((D.2.1:Int)+(D.1:Int))=((D.2.1+D.1:Nat):Int):=(by rw[aw _ (by omega) (by omega)];omega);have H:R (d+9) 132 [J6 1073741824,Z (.ptr n 0),Z (.ptr (n+2) 0),Z (.ptr (n+3) 0)] s9=some (J (P.1:Int),U):=SQ;have Y:R (d+9) 132 [J6 300,Z (.ptr n 0),Z (.ptr (n+2) 0),Z (.ptr (n+3) 0)] O=some (J (D.1:Int),F):=Sr;by_cases Sm:D.2.2=true\/bs.length<D.2.1+D.1
     ·have N:cD bs c0=none:=by
       unfold cD;rw[ae k1,ae k2,af k4];simp only[<-hP,<-SX];rw[af Sm]
      rw[N];have st:=js (e:=bN) l2 rfl;have ld:=eA (g:=(F.set (n+1) (.K true (cE bN))).get) (i:=n+1) (e:=bN) (St.dh);refine⟨F.set (n+1) (.K true (cE bN)),?_,⟨St.wf_set E.1.gr.wf (by have:=E.2.1;omega) _,by simpa using E.1.gr.2.1,λb S6=>by rw[St.bO (by omega)];exact E.1.gr.2.2 b S6⟩⟩;clear V X I SC Sj E;generalize F.set (n+1) (.K true (cE bN))=SD,R (d+9)=r at*;cases SY:D.2.2 with
      |true=>
       rw[SY]at lb;generalize(P.1:Int)=PV,(D.1:Int)=MV at*;simp[SA,SB,Sy,Q,SJ,SL,SM,SN,SO,jX,Sz,Sl,Ss,w0,dy,H,Su,Sn,Sk,SG,SH,G,d1,d2,d4,Y,lb,bD,uS,st,ld,rC,rT,aD,a8]
      |false=>
       rw[SY]at lb Sm
       have SZ:(bs.length:Int)-(D.2.1:Int)<(D.1:Int):=by
        rcases Sm with h | h
        ·cases h
        ·omega
       have Ud:decide ((bs.length:Int)-(D.2.1:Int)<(D.1:Int))=true:=aK SZ;generalize(P.1:Int)=PV,(D.1:Int)=MV,(D.2.1:Int)=AV at*;simp[SA,SB,Sy,Q,SJ,SL,SM,SN,SO,jX,Sz,Sl,Ss,w0,dy,H,Su,Sn,Sk,SG,SH,G,d1,d2,d4,Y,lb,lx,T9,S8,SZ,uS,st,ld,rC,rT,aD,a8]
     ·have SY:D.2.2=false:=by
       cases h:D.2.2 with
       |false=>rfl
       |true=>exact absurd (.inl h) Sm
      have TT:D.2.1+D.1<=bs.length:=by
       apply nf;exact λh=>Sm (.inr h)
      have SZ:¬((bs.length:Int)-(D.2.1:Int)<(D.1:Int)):=(by omega);rw[SY]at lb;have TC:RB F x bs:=hx.gr SV E.1.gr;obtain⟨y,pc,ry,_⟩:=TC.piece (lo:=D.2.1) (hi:=D.2.1+D.1) (by omega) TT;have TW:D.2.1+D.1-D.2.1=D.1:=(by omega);rw[TW,dZ,dZ,yp,yq]at ry
      have TY:RB F y ((bs.drop D.2.1).take D.1):=by
       have:((bs.drop D.2.1).take D.1).length=D.1:=(by rw[bb,fK];omega);unfold RB;rw[this];exact ry
      have Tw:=TY.str;obtain⟨SD,SI,Sp⟩:=X F _ _ _ { e0 with x:=(bs.drop D.2.1).take D.1 } 7 (.str ((bs.drop D.2.1).take D.1)) E rfl (by omega);obtain⟨τ,et,gt⟩:=I SD _ _ _ Sp Tc
      have N:cD bs c0=some ({ e0 with x:=(bs.drop D.2.1).take D.1 },D.2.2):=by
       unfold cD;rw[ae k1,ae k2,af k4];simp only[<-hP,<-SX];rw[ae Sm,Sw]
      rw[N];refine⟨τ,?_,gt⟩;clear V X I SC Sj E Sp;generalize qZ (if D.2.2=false/\ct { e0 with x:=(bs.drop D.2.1).take D.1 }=some bs then some { e0 with x:=(bs.drop D.2.1).take D.1 } else none)=S9 at*;unfold mD at et;generalize R (d+9)=r,(bs.drop D.2.1).take D.1=XX,(P.1:Int)=PV,((D.2.1+D.1:Nat):Int)=BV,(D.1:Int)=MV,(D.2.1:Int)=AV at*
      simpa[SA,SB,Sy,Q,SJ,SL,SM,SN,SO,jX,Sz,Sl,Ss,w0,dy,H,Su,Sn,Sk,SG,SH,G,d1,d2,d4,Y,lb,lx,T9,S8,SZ,TI,pc,Tw,SI]using et
    ·have d4:decide (C=4)=false:=aR (by omega);obtain⟨τ,et,gt⟩:=I O _ _ _ S5 Tc
     have N:cD bs c0=some (e0,P.2.2):=by
      unfold cD;rw[ae k1,ae k2,ae k4];simp only[<-hP,Sw]
     rw[N];refine⟨τ,?_,gt⟩;clear V X I SC Sj;generalize qZ (if P.2.2=false/\ct e0=some bs then some e0 else none)=S9 at*;unfold mD at et;generalize R (d+9)=r,(P.1:Int)=PV at*;have H:r 132 [J6 1073741824,Z (.ptr n 0),Z (.ptr (n+2) 0),Z (.ptr (n+3) 0)] s9=some (J PV,U):=SQ
     simpa[SA,SB,Sy,Q,SJ,SL,SM,SN,SO,jX,Sz,Sl,Ss,w0,dy,H,Su,Sn,Sk,SG,SH,G,d1,d2,d4]using et
end
theorem tH(n:Nat):∀a b:Bs,cB n (a++b)=cB (cB n a) b
 | [],b=>rfl
 |c::a,b=>tH _ a b
def e5(bs:Bs):Bs:=aq bs.length++four (cB 1 (aq bs.length++bs))++bs
def iw(bs:Bs)(at_:Nat):Option (Bs×Nat):=match fY bs at_ with
 |none=>none
 |some (n,c)=>if bs.length<c+4\/bs.length-c-4<n then none else
  if(bs.drop at_).take (c+4+n-at_)=e5 ((bs.drop (c+4)).take n)then some ((bs.drop (c+4)).take n,c+4+n)else none
def dW(e:bM):Option Bs:=if bR e then some (e5 (bF e))else none
def bj:List bM->Bs
 | []=>[]
 |e::r=>e5 (bF e)++bj r
def yw(l:List bM):Bs×Int:=if l.all bR then(if l.length<=2000 then(bj l,0)else([],8))else([],1)
def jL(bs:Bs):Nat->Nat->List bM->List bM×Nat
 | 0,at_,acc=>(acc,at_)
 |f+1,at_,acc=>match iw bs at_ with
  |none=>(acc,at_)
  |some (x,c)=>match mB x with
   |none=>(acc,at_)
   |some e=>jL bs f c (acc++[e])
def fV(bs:Bs):List bM×Nat:=jL bs 2000 0 []
def ff:List bM->List bM->Nat
 |a::r,b::t=>if a=b then ff r t+1 else 0
 |_,_=>0
abbrev RE(s:St)(x:S)(l:List bM):Prop:=Rd 8 s x l.length (cells cE l)
abbrev FE(s0 s:St)(x:S)(l:List bM):Prop:=Fr 8 s0 s x l.length (cells cE l)
section
variable {s t:St}{x y:S}{bs cs:Bs}{i:Nat}{l m:List bM}
theorem RE.QC(h:RE s x l){j:Nat}{n:Int}{e:bM}(f:n=j)(b:l[j]? = some e):∃p,ar 8 (Z x) (J n)=some p/\ay 8 p s.get=some (AE e):=by
 obtain⟨c,p,d,_,a⟩:=Rd.at h f (bq.1 b).1;rw[ji mq b]at a;exact⟨_,d,a⟩
theorem FE.lit{s0:St}{e:bM}(h:FE s0 s x l)(d:l.length<=1000000) :
 ∃x' t a,aE s (aN 1 (aA [iz,iz,iz,iz,iz,iz,.int .u32 0,.str []] [(0,8,AE e)]))=some (Z (.sl s.size 0 1 (.known 1)),a)/\aF 8 72 (Z x) (Z (.sl s.size 0 1 (.known 1))) a=some (Z x',t)/\FE s0 t x' (l++[e])/\s.size<=t.size:=by
 have L:=Fr.lit 8 h.gr.1 (n:=1) (vs:=cells cE [e]) (by simp[cE]);obtain⟨x',t,b,f,c,k⟩:=(h.j6 L.gr).append (by_:=72) (by omega) L.rd.src (by simp[cE]) (by omega);refine⟨x',t,_,rfl,b,?_,bl L.gr.2.1 c⟩;unfold FE;rw[dK,aI];exact f
theorem KZ(d:Nat){a:Nat}(c:a<4294967291)(h:RB s x bs)(W:bs.length<=8000):R (d+1) 174 [I .u32 (a:Nat),Z x] s=some (I .u32 (cB a bs),s):=by
 rw[Bh];unfold f174;have z:=h.r9
 obtain⟨j,X,P,F,A⟩:=aL (f:=my (R d) 8192) (λq v u=>∃k n:Nat,q+k=bs.length/\v=[J6 n,Z x,J bs.length,J k]/\u=s/\n<4294967291/\cB n (bs.drop k)=cB a bs)
  (λj u=>j = .exit 0 [J6 (cB a bs)]/\u=s) (by
  rintro q v u ⟨k,n,V,rfl,rfl,K,e⟩;by_cases b:k<bs.length
  ·left;have D:bs[k]? = some bs[k]:=aU b;have E:bs.drop k=bs[k]::bs.drop (k+1):=cU b;rw[E]at e;obtain⟨p,N,O⟩:=h.H9 (n:=(k:Int)) rfl D;have w:bs[k].toNat<256:=bs[k].toNat_lt
   obtain⟨g,i,l,m,t,Q,S,T,U⟩:∃g i l m:Int,m=(((n*257+bs[k].toNat+1)%4294967291:Nat):Int)/\ah .mul (J6 n) (J6 257)=some (J6 g)/\ah .add (J6 g) (J6 bs[k].toNat)=some (J6 i) ∧
    ah .add (J6 i) (J6 1)=some (J6 l)/\ah .rem (J6 l) (J6 4294967291)=some (J6 m):=⟨_,_,_,_,rfl,Pq.step n bs[k].toNat K w u⟩
   have M:IntKind.u64.wrap (bs[k].toNat:Int)=(bs[k].toNat:Int):=wrap64 _ (by omega);have w1:IntKind.i64.wrap ((k:Int)+1)=((k+1:Nat):Int):=by rw[aw _ (by omega) (by omega)];omega
   have o:((k:Int)<(bs.length:Int))=True:=dm (by omega);refine⟨[J6 (((n*257+bs[k].toNat+1)%4294967291:Nat)),Z x,J bs.length,J ((k+1:Nat):Int)],u,q-1,?_,by omega,k+1,_,by omega,rfl,rfl,di _ (by decide),e⟩;unfold my;rw[<-t];simp only[jk,dt,ou,vD,nT,nU,oa,n4,Bw,lh,gi,zc,fk,decide_true,o,N,O,Q,S,T,U,aY,M,cw,w1]
  ·right;have G:k=bs.length:=by omega
   have o:¬((k:Int)<(bs.length:Int)):=by omega
   have y:n=cB a bs:=by
    rw[ja (by omega)]at e;exact e
   refine⟨.exit 0 [J6 (cB a bs)],u,?_,(λv L=>by cases L),rfl,rfl⟩;unfold my;rw[y];simp[o]) 8192 bs.length [J6 (a:Nat),Z x,J bs.length,J 0] s ⟨0,a,rfl,rfl,rfl,c,rfl⟩ (by omega)
 subst F;subst A;have H:=q8 bs a c;have r:IntKind.u32.wrap (cB a bs:Int)=(cB a bs:Int):=by rw[wrap32,eU (by omega)]
 have B:az .u64 (I .u32 (a:Nat))=some (J6 (a:Nat)):=by rw[aY,wrap64 _ (by omega)]
 have C:ah .rem (J6 (a:Nat)) (J6 4294967291)=some (J6 (a:Nat)):=by
  rw[zu _ _ _ (by decide),Mq (by omega),Mm (by omega) (by omega)]
 simp[B,C,z,P,r]
theorem Oa(d:Nat)(k:s.wf)(q:Nat):∃y t,R (d+1) 173 [I .u32 q] s=some (Z y,t)/\FB s t y (four q):=by
 rw[JJ];unfold f173;have a:=PS s (q%256) (q / 2 ^ 8%256) (q / 2 ^ 16%256) (q / 2 ^ 24%256)
 have j:U (four q)=[.int .u8 (q%256:Nat),.int .u8 (q / 2 ^ 8%256:Nat),.int .u8 (q / 2 ^ 16%256:Nat),.int .u8 (q / 2 ^ 24%256:Nat)]:=by
  simp only[U,four,eE,jz,ey]
 rw[<-j]at a;have f:=gx q;have b:=gx (q / 2 ^ 8);have c:=gx (q / 2 ^ 16);have e:=gx (q / 2 ^ 24);have g:ah .shr (I .u32 q) (J6 8)=some (I .u32 ((q / 2 ^ 8:Nat))):=gW .u32 q 8 (by decide);have h:ah .shr (I .u32 q) (J6 16)=some (I .u32 ((q / 2 ^ 16:Nat))):=gW .u32 q 16 (by decide);have i:ah .shr (I .u32 q) (J6 24)=some (I .u32 ((q / 2 ^ 24:Nat))):=gW .u32 q 24 (by decide);refine⟨_,_,?_,Fr.lit 1 k (n:=4) (vs:=U (four q)) rfl⟩;generalize s.push (.K true (U (four q)))=t at a ⊢;generalize((q / 2 ^ 8%256:Nat):Int)=r at a b;generalize((q / 2 ^ 16%256:Nat):Int)=u at a c;generalize((q / 2 ^ 24%256:Nat):Int)=v at a e;generalize((q%256:Nat):Int)=p at a f;generalize((q / 2 ^ 8:Nat):Int)=l at g b;generalize((q / 2 ^ 16:Nat):Int)=m at h c;generalize((q / 2 ^ 24:Nat):Int)=o at i e;simp[f,b,c,e,g,h,i,a]
def cT:List Bs->Nat
 | []=>0
 |b::r=>b.length+cT r
theorem s9:∀l:List Bs,l.flatten.length=cT l
 | []=>rfl
 |b::r=>by simp[cT,s9 r]
theorem nV:∀(l:List Bs) (b:Bs),cT (l++[b])=cT l+b.length
 | [],b=>by simp[cT]
 |a::r,b=>by simp[cT,nV r b];omega
theorem tc(l:List Bs)(k:Nat):cT (l.take k)<=cT l:=by
 induction l generalizing k with
 |nil=>simp[cT]
 |cons a r c=>
  cases k with
  |zero=>simp[cT]
  |succ k=>have:=c k;simp[cT];omega
theorem CV(d:Nat)(Sl:s.wf){ys:List S}{bss:List Bs}(I:Rd 1 s x ys.length ys)(G:∀c,own x=some c->c<s.size)(l:ys.length=bss.length)(C:∀(j:Nat) y b,ys[j]? = some y->bss[j]? = some b->RB s y b/\∀c,own y=some c->c<s.size)
 (h0:0<cT bss) (hT:cT bss<=100000) (hl:ys.length<=100):∃z t,R (d+2) 172 [Z x] s=some (Z z,t)/\FB s t z bss.flatten:=by
 rw[JI];unfold f172;have F:=I.lens
 obtain⟨j,a,lp,hj,N⟩:=aL (f:=tW (R (d+1)) 8192) (λq v u=>∃k:Nat,q+k=ys.length/\v=[Z x,J (cT (bss.take k):Nat),Z x,J ys.length,J k]/\u=s)
  (λj u=>j = .exit 0 [Z x,J (cT bss:Nat)]/\u=s) (by
  rintro q v u ⟨k,hk,rfl,rfl⟩;by_cases o:k<ys.length
  ·left;have m:ys[k]? = some ys[k]:=aU o;have A:bss[k]? = some (bss[k]'(by omega)):=aU (by omega);obtain⟨p,O,P⟩:=Rd.CJ I (i:=(k:Int)) rfl m;obtain⟨X,_⟩:=C k _ _ m A;have M:=X.r9;have h:bss.take (k+1)=bss.take k++[bss[k]'(by omega)]:=by rw[cM,A];rfl
   have h1:=tc bss (k+1);have hs:cT (bss.take (k+1))=cT (bss.take k)+(bss[k]'(by omega)).length:=by rw[h,nV]
   have r:(k:Int)<(ys.length:Int):=by omega
   have w1:IntKind.i64.wrap ((k:Int)+1)=((k+1:Nat):Int):=by rw[aw _ (by omega) (by omega)];omega
   have Y:IntKind.i64.wrap ((cT (bss.take k):Nat)+((bss[k]'(by omega)).length:Int))=((cT (bss.take (k+1)):Nat):Int):=by rw[aw _ (by omega) (by omega)];omega
   have w:¬((cT (bss.take (k+1)):Nat):Int)<0:=by omega
   refine⟨[Z x,J (cT (bss.take (k+1)):Nat),Z x,J ys.length,J ((k+1:Nat):Int)],u,q-1,?_,by omega,k+1,by omega,rfl,rfl⟩;unfold tW;generalize((k+1:Nat):Int)=K1 at w1 ⊢;generalize((cT (bss.take (k+1)):Nat):Int)=S1 at Y w ⊢;generalize((cT (bss.take k):Nat):Int)=S0 at Y ⊢;generalize((bss[k]'(by omega)).length:Int)=B1,(k:Int)=K,(ys.length:Int)=L at*;simp[r,O,P,M,Y,w,w1]
  ·right;have n:k=ys.length:=by omega
   subst n;rw[l,dE];refine⟨.exit 0 [Z x,J (cT bss:Nat)],u,?_,(λv H=>by cases H),rfl,rfl⟩;unfold tW;simp) 8192 ys.length [Z x,J 0,Z x,J ys.length,J 0] s ⟨0,rfl,by simp[cT],rfl⟩ (by omega)
 subst N;subst hj;obtain⟨e,D⟩:=aZ (cT bss);rw[<-D]at lp h0 hT;obtain⟨s1,g⟩:=aZ (a.push (.K true (eD e [.int .u8 0])));have g1:Gr a s1:=by rw[g];exact Gr.push Sl _
 have hg:R (d+1) 216 [Z .av,J (e:Nat)] a=some (Z (.sl a.size 0 0 (.grown 1)),s1):=by
  rw[J3];unfold f216;have r:¬((e:Nat):Int)<0:=by omega
  have w:(0:Int)<((e:Nat):Int):=by omega
  have w0:IntKind.i64.wrap 0=0:=rfl;have wT:IntKind.i64.wrap ((e:Nat):Int)=((e:Nat):Int):=aw _ (by omega) (by omega);have cap:Av (Z .av)=some (J 0):=rfl;have V:aB 1 (Z .av) none (some (J 0)) none=some (Z .av):=rfl
  have Sk:nN 1 1 [.int .u8 0] (Z .av) (J ((e:Nat):Int)) a=some (Z (.sl a.size 0 e (.grown 1)),s1):=by
   simp only[nN,iY,g];rw[af ⟨w,by omega,by decide⟩]
  have W:aB 1 (Z (.sl a.size 0 e (.grown 1))) none (some (J 0)) none=some (Z (.sl a.size 0 0 (.grown 1))):=by
   unfold aB;dsimp only;rw[af rfl,show(J 0:T)=J ((0:Nat):Int) from rfl,fM (cc _)];dsimp only;rw[af h0]
  generalize((e:Nat):Int)=TT at*;simp[r,cap,w0,wT,w,V,Sk,W]
 have f1:FB a s1 (.sl a.size 0 0 (.grown 1)) []:=by
  refine⟨g1,⟨by simp,.inr (.inr ⟨a.size,eD e [.int .u8 0],_,rfl,.inl rfl,by rw[g];exact St.ec,by simp,by simp[U]⟩)⟩,λc m=>by cases m;exact⟨au _,by rw[g];simp⟩⟩
 obtain⟨j,σ,Q,z,rfl,fz⟩:=aL (f:=tX (R (d+1)) 8192) (λq v u=>∃(k:Nat) (z:S),q+k=ys.length/\v=[Z z,Z x,J ys.length,J k]/\FB a u z (bss.take k).flatten)
  (λj u=>∃z,j = .exit 2 [Z z]/\FB a u z bss.flatten) (by
  rintro q v u ⟨k,z,hk,rfl,B⟩;by_cases o:k<ys.length
  ·left;have m:ys[k]? = some ys[k]:=aU o;have A:bss[k]? = some (bss[k]'(by omega)):=aU (by omega);obtain⟨p,O,P⟩:=Rd.CJ (I.gr G B.gr) (i:=(k:Int)) rfl m;obtain⟨X,oy⟩:=C k _ _ m A;have h:bss.take (k+1)=bss.take k++[bss[k]'(by omega)]:=by rw[cM,A];rfl
   have h1:=tc bss (k+1);have hs:cT (bss.take (k+1))=cT (bss.take k)+(bss[k]'(by omega)).length:=by rw[h,nV]
   have r:(k:Int)<(ys.length:Int):=by omega
   have w1:IntKind.i64.wrap ((k:Int)+1)=((k+1:Nat):Int):=by rw[aw _ (by omega) (by omega)];omega
   obtain⟨z',u',Sj,E,_⟩:=FB.app B (Rd.gr X oy B.gr) (by rw[s9];omega);refine⟨[Z z',Z x,J ys.length,J ((k+1:Nat):Int)],u',q-1,?_,by omega,k+1,z',by omega,rfl,by rw[h,Mw];simpa using E⟩;unfold tX;generalize((k+1:Nat):Int)=K1 at w1 ⊢;generalize(k:Int)=K,(ys.length:Int)=L at*;simp[r,O,P,Sj,w1]
  ·right;have n:k=ys.length:=by omega
   subst n;rw[l,dE]at B;refine⟨.exit 2 [Z z],u,?_,(λv H=>by cases H),z,rfl,B⟩;unfold tX;simp) 8192 ys.length [Z (.sl a.size 0 0 (.grown 1)),Z x,J ys.length,J 0] s1 ⟨0,_,by omega,rfl,by simpa using f1⟩ (by omega)
 refine⟨z,σ,?_,fz⟩;simp[F,lp,hg,Q]
theorem Cv(d:Nat)(Sj:s.wf)(h:RB s x bs)(o:∀c,own x=some c->c<s.size)(V:bs.length<=8000):∃z t,R (d+3) 131 [Z x] s=some (Z z,t)/\FB s t z (e5 bs):=by
 rw[Jn];unfold f131;have F:=h.r9;have w0:IntKind.u64.wrap (bs.length:Int)=(bs.length:Int):=wrap64 _ (by omega);obtain⟨B,s1,I,g⟩:=fZ (d+1) Sj bs.length (by omega);have X:=aX bs.length;have T:=Fm d g.rd (by omega);have G:=q8 (aq bs.length) 1 (by decide);have H:RB s1 x bs:=h.gr o g.gr;have J:=KZ (d+1) G H V;obtain⟨C,D,N,k⟩:=Oa (d+1) g.gr.wf (cB (cB 1 (aq bs.length)) bs);have Q:=g.gr.trans k.gr;obtain⟨w,u⟩:=aZ (D.push (.K true [B,C,x]));have nw:aE D (aN 3 (aA [.av,.av,.av] [(0,1,Z B),(1,1,Z C),(2,1,Z x)]))=some (Z (.sl D.size 0 3 (.known 3)),w):=by rw[u];rfl
 have L:=Fr.lit 1 Q.wf (n:=3) (vs:=[B,C,x]) rfl;rw[<-u]at L;have E:=Q.trans L.gr;have r1:RB w B (aq bs.length):=(g.rd.gr (λc e=>(g.new c e).2) k.gr).gr (λc e=>bh (g.new c e).2 k.gr.2.1) L.gr;have r4:RB w C (four (cB (cB 1 (aq bs.length)) bs)):=k.rd.gr (λc e=>(k.new c e).2) L.gr;have rx:RB w x bs:=h.gr o E;have S:0<(aq bs.length).length:=by unfold aq pc;split<;>simp
 obtain⟨z,t,U,O⟩:=CV d L.gr.wf (ys:=[B,C,x]) (bss:=[aq bs.length,four (cB (cB 1 (aq bs.length)) bs),bs]) L.rd (λc e=>(L.new c e).2) rfl (λj y b q r=>by
  have z5:D.size<=w.size:=L.gr.2.1
  match j with
  | 0=>simp at q r;subst q;subst r;exact⟨r1,λc e=>by have:=(g.new c e).2;have:=k.gr.2.1;omega⟩
  | 1=>simp at q r;subst q;subst r;exact⟨r4,λc e=>by have:=(k.new c e).2;omega⟩
  | 2=>simp at q r;subst q;subst r;exact⟨rx,λc e=>by have:=o c e;have:=E.2.1;omega⟩
  |j+3=>simp at q) (by simp[cT];omega) (by simp[cT,four];omega) (by simp)
 have Y:[aq bs.length,four (cB (cB 1 (aq bs.length)) bs),bs].flatten=e5 bs:=by simp[e5,tH]
 rw[Y]at O;refine⟨z,t,?_,O.from E⟩;simp only[aH,Nat.reduceAdd]at I J N;simp[F,w0,I,T,J,N,nw,U]
end
section
variable {s t:St}{x y:S}{bs cs:Bs}{i:Nat}{l m:List bM}
theorem ym(b:Bs):(e5 b).length<=b.length+15:=by
 have:=aX b.length;simp[e5,four];omega
theorem GL{bs:Bs}{at_:Nat}:∀(f k n:Nat) {r:Nat×Nat},mC bs at_ f k n=some r->r.2<=at_+k+f:=by
 intro f;induction f with
 |zero=>intro k n r h;cases h
 |succ f c=>
  intro k n r h;unfold mC at h;split at h
  ·cases h
  ·split at h
   ·cases h
   ·split at h
    ·have:=c _ _ h;omega
    ·split at h
     ·cases h
     ·cases h;show at_+k+1<=_
      omega
theorem Ki{bs:Bs}{at_ n a:Nat}(h:fY bs at_=some (n,a)):a<=at_+10:=by
 unfold fY at h;split at h
 ·have:=GL _ _ _ h
  simpa using this
 ·cases h
abbrev RN(y:S)(at_:Nat)(o:Option (Bs×Nat)):T:=match o with
 |some (p,e) => .c6 [.s y,.s (.int .i64 e),.s (.bool true)]
 |none => .c6 [.s .av,.s (.int .i64 at_),.s (.bool false)]
theorem Le(d:Nat)(I:s.wf)(h:RB s x bs)(E:∀c,own x=some c->c<s.size)(hl:bs.length<=100000){at_:Nat}(ha:at_<=bs.length)(V:∀n g,fY bs at_=some (n,g)->bs.length-g-4<n\/n<=7900) :
 ∃y t,R (d+4) 93 [Z x,J at_] s=some (RN y at_ (iw bs at_),t)/\Gr s t/\∀p e,iw bs at_=some (p,e)->RB t y p/\(∀c,own y=some c->c<t.size)/\e<=bs.length/\p.length<=7900:=by
 rw[NQ];unfold f93;have u:=h.r9;have q:=rk (d+2) h hl (at_:=at_) (by omega);simp only[aH,Nat.reduceAdd]at q;cases w:fY bs at_ with
 |none=>
  rw[w]at q;simp only[mf,af ha]at q;have D:iw bs at_=none:=by unfold iw;rw[w]
  rw[D];refine⟨.av,s,?_,Gr.refl I,λp e k=>by cases k⟩;simp[q,ai,bD,aD,a8]
 |some p=>
  obtain⟨n,g⟩:=p;rw[w]at q;simp only[mf]at q;obtain⟨Sm,Sn⟩:=mT w;have X:=V n g w;have w1:IntKind.i64.wrap ((bs.length:Int)-((g:Nat):Int))=(bs.length:Int)-((g:Nat):Int):=aw _ (by omega) (by omega);by_cases Sk:bs.length<g+4
  ·have D:iw bs at_=none:=by unfold iw;rw[w];simp only;rw[af (.inl Sk)]
   rw[D];have F:(bs.length:Int)-((g:Nat):Int)<4:=by omega
   refine⟨.av,s,?_,Gr.refl I,λp e k=>by cases k⟩;simp[q,ai,u,w1,F,bD,aD,a8]
  ·have F:¬(bs.length:Int)-((g:Nat):Int)<4:=by omega
   have w2:IntKind.i64.wrap ((bs.length:Int)-((g:Nat):Int)-4)=(bs.length:Int)-((g:Nat):Int)-4:=aw _ (by omega) (by omega);have w3:IntKind.u64.wrap ((bs.length:Int)-((g:Nat):Int)-4)=(bs.length:Int)-((g:Nat):Int)-4:=bH _ (by omega) (by omega);by_cases O:bs.length-g-4<n
   ·have D:iw bs at_=none:=(by unfold iw;rw[w];simp only;rw[af (.inr O)]);rw[D];have H:(bs.length:Int)-((g:Nat):Int)-4<((n:Nat):Int):=(by omega);refine⟨.av,s,?_,Gr.refl I,λp e k=>by cases k⟩;simp[q,ai,u,w1,F,w2,w3,H,aD,a8]
   ·have H:¬(bs.length:Int)-((g:Nat):Int)-4<((n:Nat):Int):=(by omega);have w4:IntKind.i64.wrap (((g:Nat):Int)+4)=((g+4:Nat):Int):=(by rw[aw _ (by omega) (by omega)];omega);have w5:IntKind.i64.wrap ((n:Nat):Int)=((n:Nat):Int):=aw _ (by omega) (by omega);have w6:IntKind.i64.wrap (((g+4:Nat):Int)+((n:Nat):Int))=((g+4+n:Nat):Int):=by rw[aw _ (by omega) (by omega)];omega
    have piece:∀lo hi:Nat,lo<=hi->hi<=bs.length->∃y,aB 1 (Z x) (some (J lo)) (some (J hi)) none=some (Z y)/\RB s y ((bs.drop lo).take (hi-lo))/\(own y=none\/own y=own x):=λlo hi h1 h2=>by
     obtain⟨y,a,b,c⟩:=Rd.piece h (lo:=lo) (hi:=hi) h1 h2;refine⟨y,a,?_,c⟩;rw[dZ,dZ,yp,yq]at b;have:((bs.drop lo).take (hi-lo)).length=hi-lo:=(by rw[bb,fK];omega);unfold RB;rw[this];exact b
    obtain⟨N,p1,Y,Sp⟩:=piece (g+4) (g+4+n) (by omega) (by omega);obtain⟨y2,p2,r2,o2⟩:=piece at_ (g+4+n) (by omega) (by omega);rw[show g+4+n-(g+4)=n by omega]at Y;have Sl:n<=7900:=X.resolve_left O;have U:((bs.drop (g+4)).take n).length<=7900:=by rw[bb];omega
    have C:∀c,own N=some c->c<s.size:=λc j=>by
     rcases Sp with e | e
     ·rw[e]at j;cases j
     ·rw[e]at j;exact E c j
    have Q:∀c,own y2=some c->c<s.size:=λc j=>by
     rcases o2 with e | e
     ·rw[e]at j;cases j
     ·rw[e]at j;exact E c j
    obtain⟨z,t,e3,f3⟩:=Cv d I Y C (by omega);have Sj:RB t y2 ((bs.drop at_).take (g+4+n-at_)):=r2.gr Q f3.gr
    have eq:R (d+3) 130 [Z y2,Z z] t=some (B (decide ((bs.drop at_).take (g+4+n-at_)=e5 ((bs.drop (g+4)).take n))),t):=by
     by_cases o:((bs.drop at_).take (g+4+n-at_)).length<=8000
     ·exact Gy (d+2) Sj f3.rd o
     ·exfalso;rw[bb,fK]at o;have:=Ki w;omega
    have S:iw bs at_=if(bs.drop at_).take (g+4+n-at_)=e5 ((bs.drop (g+4)).take n)then some ((bs.drop (g+4)).take n,g+4+n)else none:=by
     unfold iw;rw[w];simp only;rw[ae (λk=>k.elim Sk O)]
    rw[S];by_cases G:(bs.drop at_).take (g+4+n-at_)=e5 ((bs.drop (g+4)).take n)
    ·rw[af G];rw[aK G]at eq
     refine⟨N,t,?_,f3.gr,λp e k=>by
      cases k;exact⟨Y.gr C f3.gr,λc j=>bh (C c j) f3.gr.2.1,by omega,U⟩⟩
     show _=some (T.c6 [.s N,.s (.int .i64 ((g+4+n:Nat):Int)),.s (.bool true)],t)
     generalize((g+4+n:Nat):Int)=E1,((g+4:Nat):Int)=E0,R (d+3)=r at*;simp[q,ai,u,w1,F,w2,w3,H,w4,w5,w6,p1,p2,e3,eq,aD,a8]
    ·rw[ae G];rw[aR G]at eq;refine⟨N,t,?_,f3.gr,λp e k=>by cases k⟩;generalize((g+4+n:Nat):Int)=E1,((g+4:Nat):Int)=E0,R (d+3)=r at*;simp[q,ai,u,w1,F,w2,w3,H,w4,w5,w6,p1,p2,e3,eq,aD,a8]
abbrev sr(y:S)(o:Option Bs):T:=match o with
 |some b => .c6 [.s y,.s (iz)]
 |none => .c6 [.s .av,.s (.int .i64 1)]
theorem xu(d:Nat)(H:s.wf)(e:bM)(F:nI e):∃y t,R (d+10) 95 [AE e] s=some (sr y (dW e),t)/\Gr s t/\∀b,dW e=some b->FB s t y b:=by
 rw[NS];unfold f95;obtain⟨s1,h⟩:=aZ (s.push (.K true (cE e)));have o:aE s (b6 (AE e))=some (Z (.ptr s.size 0),s1):=by rw[h];rfl
 have k:Gr s s1:=by rw[h];exact Gr.push H _
 have D:s1.get s.size=some (.K true (cE e)):=by rw[h];exact St.ec
 have x:=eA (g:=s1.get) D;cases n:bR e with
 |false=>
  obtain⟨B,q,C⟩:=E9 d k.wf n;have u:dW e=none:=by simp[dW,n]
  rw[u];refine⟨.av,B,?_,k.trans C,λb r=>by cases r⟩;simp[o,x,q,ai,aD,a8]
 |true=>
  obtain⟨y,B,q,j⟩:=Fa d k.wf n F;obtain⟨z,G,w,f3⟩:=Cv (d+6) j.gr.wf j.rd (λc E=>(j.new c E).2) (by have:=vQ (j9 n);omega);have u:dW e=some (e5 (bF e)):=by simp[dW,n]
  rw[u];refine⟨z,G,?_,(k.trans j.gr).trans f3.gr,λb r=>by cases r;exact f3.from (k.trans j.gr)⟩;simp only[aH,Nat.reduceAdd]at w;simp[o,x,q,ai,w,aD,a8]
theorem pO{e:bM}{b:Bs}(h:dW e=some b):b.length<=415:=by
 unfold dW at h;split at h
 ·rename_i a;cases h;have:=vQ (j9 a);have:=ym (bF e);omega
 ·cases h
theorem mA:∀(l:List bM) (e:bM),bj (l++[e])=bj l++e5 (bF e)
 | [],e=>by simp[bj]
 |a::r,e=>by simp[bj,mA r e]
theorem Ge(l:List bM)(k:Nat)(e:bM)(c:l[k]? = some e)(h:(l.take k).all bR=true):(bR e=false->l.all bR=false)/\(bR e=true->(l.take (k+1)).all bR=true):=by
 constructor
 ·intro a;rw[gE];intro b;rw[e6]at b;rw[b e (bS c)]at a;cases a
 ·intro a;rw[cM,c,nj,Eg,h];simp[a]
theorem sW:∀l:List bM,l.all bR=true->(bj l).length<=415*l.length
 | [],_=>by simp[bj]
 |e::r,h=>by
  simp only[nq,aM]at h;have c:=sW r h.2;have d:(e5 (bF e)).length<=415:=pO (e:=e) (by simp[dW,h.1]);simp[bj];omega
end
section
variable {s t:St}{x y:S}{bs cs:Bs}{i:Nat}{l m:List bM}
abbrev P4(y:S)(p:List bM×Nat):T := .c6 [.s y,.s (.int .i64 p.2)]
theorem Lz(d:Nat)(Sm:s.wf)(h:RB s x bs)(H:∀c,own x=some c->c<s.size)(hl:bs.length<=100000)(V:Nat->Prop)(v0:V 0)(v1:∀a p e,V a->iw bs a=some (p,e)->V e)
 (v2:∀a n T,V a->fY bs a=some (n,T)->bs.length-T-4<n\/n<=7900) :
 ∃y t,R (d+11) 43 [Z x] s=some (P4 y (fV bs),t)/\FE s t y (fV bs).1:=by
 rw[Nj];unfold f43
 obtain⟨j,Sn,lp,z,hj,f⟩:=aL (f:=rR (R (d+10)) 8192) (λq v u=>∃(at_:Nat) (z:S) (acc:List bM),q+acc.length=2000/\v=[Z x,Z z,J at_]/\FE s u z acc/\V at_/\at_<=bs.length/\jL bs q at_ acc=fV bs)
  (λj u=>∃z,j = .exit 0 [Z z,J (fV bs).2]/\FE s u z (fV bs).1) (by
  rintro q v u ⟨at_,z,acc,hq,rfl,f,D,ha,g⟩;have o:=f.rd.lens;by_cases O:acc.length<2000
  ·obtain⟨q',rfl⟩:∃q',q=q'+1:=⟨q-1,by omega⟩;obtain⟨y,u1,E,N,Sl⟩:=Le (d+6) f.gr.wf (h.gr H f.gr) (λc O=>bh (H c O) f.gr.2.1) hl ha (λn T=>v2 at_ n T D);simp only[aH,Nat.reduceAdd]at E;have F:(acc.length:Int)<2000:=by omega
   unfold jL at g;cases Q:iw bs at_ with
   |none=>
    rw[Q]at E g;right;refine⟨.exit 0 [Z z,J at_],u1,?_,(λv D=>by cases D),z,?_,?_⟩
    ·unfold rR;generalize R (d+10)=r at*;simp[o,F,E,ai,bD]
    ·rw[<-g]
    ·rw[<-g];exact f.j6 N
   |some pe=>
    obtain⟨p,e⟩:=pe;rw[Q]at E g;simp only at g;obtain⟨ry,oy,he,hp⟩:=Sl p e Q;obtain⟨k,I,U⟩:=NZ d N.wf ry oy (by omega);obtain⟨u3,B⟩:=aZ (k.push (.K true (cE bN)));have b0:u3.get k.size=some (.K true (cE bN)):=(by rw[B];exact St.ec);have X:Gr k u3:=(by rw[B];exact Gr.push U.wf _);have z3:u3.size=k.size+1:=(by rw[B];simp);have nw:aE k (a6 [iz,iz,iz,iz,iz,iz,.int .u32 0,.str []])=some (Z (.ptr k.size 0),u3):=by rw[B];rfl
    have C:∀b:er,Gr k (u3.set k.size b):=λb=>
     ⟨St.wf_set X.wf (by omega) _,by simpa using X.2.1,λc O=>by rw[St.bO (by omega)];exact X.2.2 c O⟩
    cases hg:mB p with
    |none=>
     rw[hg]at I g;have st:=js (e:=bN) b0 rfl;right;refine⟨.exit 0 [Z z,J at_],u3.set k.size (.K true (cE bN)),?_,(λv D=>by cases D),z,?_,?_⟩
     rotate_left
     ·rw[<-g]
     ·rw[<-g];exact f.j6 ((N.trans U).trans (C _))
     ·unfold rR;generalize R (d+10)=r at*;simp[o,F,E,ai,I,nw,st,bD]
    |some G=>
     rw[hg]at I g;obtain⟨w,hw⟩:=aZ (u3.set k.size (.K true (cE G)));have st:aj 8 (Z (.ptr k.size 0)) (AE G) u3=some (tt,w):=(by rw[hw];exact js b0 rfl);have ld:ay 8 (Z (.ptr k.size 0)) w.get=some (AE G):=(by rw[hw];exact eA (St.dh));have gw:Gr k w:=(by rw[hw];exact C _);obtain⟨z2,u5,u4,Sj,Sk,f5,_⟩:=FE.lit (e:=G) (f.j6 ((N.trans U).trans gw)) (by omega);left;refine⟨[Z x,Z z2,J (e:Nat)],u5,q',?_,rfl,e,z2,acc++[G],by simp;omega,rfl,f5,v1 _ _ _ D Q,he,g⟩;unfold rR;generalize R (d+10)=r at*;simp[o,F,E,ai,I,nw,st,ld,Sj,Sk]
  ·have Y:q=0:=by omega
   subst Y;have F:¬(acc.length:Int)<2000:=by omega
   right;refine⟨.exit 0 [Z z,J at_],u,?_,(λv D=>by cases D),z,?_,?_⟩
   ·unfold rR;simp[o,F]
   ·rw[<-g];rfl
   ·rw[<-g];exact f) 8192 2000 [Z x,Z .av,J 0] s ⟨0,.av,[],rfl,rfl,by exact Fr.nil 8 Sm,v0,by omega,rfl⟩ (by omega)
 subst hj;exact⟨z,Sn,by simp[lp,aD,a8],f⟩
theorem Ho(d:Nat)(f:s.wf)(h:RB s x bs)(b:∀c,own x=some c->c<s.size)(g:bs.length<=7900):∃y t,R (d+11) 43 [Z x] s=some (P4 y (fV bs),t)/\FE s t y (fV bs).1:=
 Lz d f h b (by omega) (λ_=>True) trivial (λ_ _ _ _ _=>trivial) (λa n e _ i=>by
  by_cases c:bs.length-e-4<n
  ·exact .inl c
  ·exact .inr (by omega))
end
theorem vI(acc c k:Nat)(h:acc<2 ^ k):acc ||| c*2 ^ k=acc+c*2 ^ k:=by
 have:=FW h c;rw[uJ]at this;rw[Nat.or_comm,<-this,zP]
theorem QO(k:Nat):2 ^ (7*(k+1))=128*2 ^ (7*k):=by
 rw[Nat.mul_add,Nat.pow_add];omega
theorem GM{bs post:Bs}{at_:Nat}:∀(f k m acc:Nat),f+k=10->m*2 ^ (7*k)<2 ^ 64->(k=0\/0<m)->acc<2 ^ (7*k)->bs.drop (at_+k)=pc f m++post →
 mC bs at_ f k acc=some (acc+m*2 ^ (7*k),at_+k+(pc f m).length):=by
 intro f;induction f with
 |zero=>
  intro k m acc w r u n d;obtain rfl:k=10:=by omega
  exfalso;rcases u with h | h
  ·omega
  ·have:1*2 ^ 70<=m*2 ^ 70:=dx _ h;have e:2 ^ (7*10)=2 ^ 70:=rfl;rw[e]at r;omega
 |succ f x=>
  intro k m acc w r u n d
  have j:k=9->m<2:=by
   rintro rfl;have e:2 ^ (7*9)=2 ^ 63:=rfl;rw[e]at r;omega
  have c:bs[at_+k]? = (bs.drop (at_+k))[0]? := by simp
  unfold mC;by_cases q:128<=m
  ·have t:pc (f+1) m=UInt8.ofNat (m%128+128)::pc f (m / 128):=by rw[pc,af q]
   rw[t]at d ⊢;rw[c,d];have o:(UInt8.ofNat (m%128+128)).toNat=m%128+128:=by rw[ey];omega
   simp only[Aa,lZ,o];rw[ae (by rintro⟨h,_⟩;have:=j h;omega),af (by omega)];have g:(m%128+128)%128=m%128:=by omega
   rw[g,vI _ _ _ n]
   have hmul:m*2 ^ (7*k)=m%128*2 ^ (7*k)+m / 128*2 ^ (7*(k+1)):=by
    rw[QO,<-Nat.mul_assoc,<-bJ]
    congr 1
    omega
   rw[x (k+1) (m / 128) _ (by omega) (by omega) (.inr (by omega)) ?_ ?_]
   ·rw[bB,hmul]
    congr 2<;>omega
   ·rw[QO];have:m%128*2 ^ (7*k)<=127*2 ^ (7*k):=dx _ (by omega);omega
   ·rw[<-aH,<-lY,d];rfl
  ·have t:pc (f+1) m=[UInt8.ofNat m]:=by rw[pc,ae q]
   rw[t]at d ⊢;rw[c,d];have o:(UInt8.ofNat m).toNat=m:=by rw[ey];omega
   simp only[Aa,lZ,o];rw[ae (by rintro⟨h,_⟩;have:=j h;omega),ae q,ae (by omega),eU (by omega),vI _ _ _ n];rfl
theorem me{bs pre post:Bs}{n at_:Nat}(b:bs=pre++(aq n++post))(a:at_=pre.length)(c:n<2 ^ 64):fY bs at_=some (n,at_+(aq n).length):=by
 subst b a;unfold fY;rw[af (by simp),GM (post:=post) 10 0 n 0 rfl (by simpa using c) (.inl rfl) (by simp) (by simp[aq])];simp[aq]
theorem lE{bs pre post:Bs}{n at_ most:Nat}{bad:Bool}(b:bs=pre++(aq n++post))(a:at_=pre.length)(c:n<=most)(d:most<2 ^ 64):nZ bs most at_ bad=(n,at_+(aq n).length,bad):=by
 unfold nZ;rw[me b a (by omega)];simp only[gp c,jF,true_and];rw[aR (by omega),Bool.or_false]
theorem GK{e:bM}(h:bR e=true)(hw:nI e):mB (bF e)=some e:=by
 obtain⟨v0,v1,k0,k1,Y,Z,h3,h4⟩:=eN h;have y:ct e=some (bF e):=by unfold ct;rw[af h]
 obtain⟨w0,w1⟩:=hw
 have main:∃c r,bF e=c::r/\cD (bF e) c=some (e,false):=by
  refine⟨_,_,rfl,?_⟩;have j:(UInt8.ofNat e.k.toNat).toNat=e.k.toNat:=by rw[ey];omega
  have J:bF e=[UInt8.ofNat e.k.toNat]++(aq e.v.toNat++(dc (dU e)++e.x)):=by simp[bF]
  have n1:=lE (most:=1073741824) (bad:=false) J rfl (by omega) (by omega);have F:(e.v.toNat:Int)=e.v:=ic v0;rcases (by omega:e.k=1\/e.k=2\/e.k=3\/e.k=4)with hk | hk | hk | hk
  ·obtain⟨w,Sl,Sm,Sk,t1,X,f1,Sn⟩:=Y hk;have d:(UInt8.ofNat e.k.toNat).toNat=1:=by rw[j,hk];rfl
   have n:dU e=[e.i.toNat,e.t.toNat,e.f.toNat,e.o.toNat,e.u.toNat]:=by simp[dU,hk]
   have q:bF e=([UInt8.ofNat e.k.toNat]++aq e.v.toNat)++(aq e.i.toNat++(aq e.t.toNat++aq e.f.toNat++aq e.o.toNat++aq e.u.toNat)):=by simp[bF,n,dc,w]
   have S:bF e=([UInt8.ofNat e.k.toNat]++aq e.v.toNat++aq e.i.toNat)++(aq e.t.toNat++(aq e.f.toNat++aq e.o.toNat++aq e.u.toNat)):=by simp[bF,n,dc,w]
   have T:bF e=([UInt8.ofNat e.k.toNat]++aq e.v.toNat++aq e.i.toNat++aq e.t.toNat)++(aq e.f.toNat++(aq e.o.toNat++aq e.u.toNat)):=by simp[bF,n,dc,w]
   have U:bF e=([UInt8.ofNat e.k.toNat]++aq e.v.toNat++aq e.i.toNat++aq e.t.toNat++aq e.f.toNat)++(aq e.o.toNat++aq e.u.toNat):=by simp[bF,n,dc,w]
   have V:bF e=([UInt8.ofNat e.k.toNat]++aq e.v.toNat++aq e.i.toNat++aq e.t.toNat++aq e.f.toNat++aq e.o.toNat)++(aq e.u.toNat++[]):=by simp[bF,n,dc,w]
   have n2:=lE (most:=1073741824) (bad:=false) q rfl (by omega) (by omega);have n3:=lE (most:=4) (bad:=false) S rfl (by omega) (by omega);have O:=lE (most:=1099511627776) (bad:=false) T rfl (by omega) (by omega);have Q:=lE (most:=1099511627776) (bad:=false) U rfl (by omega) (by omega);have R:=lE (most:=4294967295) (bad:=false) V rfl (by omega) (by omega);simp only[aI,bB,dO,a7]at n1 n2 n3 O Q R;unfold cD;simp only[d,n1,n2,n3,O,Q,R,bY];simp only[F,ic (show 0<=e.i by omega),ic Sk,ic X,ic (show 0<=e.o by omega),ic w0];obtain⟨G,H,I,z,B,C,D,E⟩:=e;simp only at hk w;subst hk w;rfl
  ·have d:(UInt8.ofNat e.k.toNat).toNat=2:=by rw[j,hk];rfl
   obtain⟨q0,q1,g⟩:=Z hk;have n:dU e=[e.i.toNat]:=by simp[dU,hk]
   have q:bF e=([UInt8.ofNat e.k.toNat]++aq e.v.toNat)++(aq e.i.toNat++e.x):=by simp[bF,n,dc]
   have n2:=lE (most:=1073741824) (bad:=false) q rfl (by omega) (by omega);simp only[aI,bB,dO,a7]at n1 n2;unfold cD;simp only[d,n1,n2,bY,ae (show ¬(2:Nat)=1 by decide)];rw[F,ic (show 0<=e.i by omega)];obtain⟨G,H,I,z,B,C,D,E⟩:=e;simp only at hk;subst hk;obtain rfl:z=0:=bw bM.t g;obtain rfl:B=0:=bw bM.f g;obtain rfl:C=0:=bw bM.o g;obtain rfl:D=0:=bw bM.u g;obtain rfl:E=[]:=bw bM.x g;rfl
  ·have d:(UInt8.ofNat e.k.toNat).toNat=3:=by rw[j,hk];rfl
   simp only[aI,bB,dO,a7]at n1;unfold cD;simp only[d,n1,ae (show ¬(3:Nat)=1 by decide),ae (show ¬(3:Nat)=2 by decide),ae (show ¬(3:Nat)=4 by decide)];rw[F];have g:=(h3 hk).2;obtain⟨G,H,I,z,B,C,D,E⟩:=e;simp only at hk;subst hk;simp only[bN,bM.mk.injEq]at g;obtain⟨_,_,q3,q4,q5,q6,q7,q8⟩:=g
   subst_vars
   rfl
  ·have d:(UInt8.ofNat e.k.toNat).toNat=4:=by rw[j,hk];rfl
   obtain⟨x0,g,_⟩:=h4 hk;have n:dU e=[e.x.length]:=by simp[dU,hk]
   have q:bF e=([UInt8.ofNat e.k.toNat]++aq e.v.toNat)++(aq e.x.length++e.x):=by simp[bF,n,dc]
   have n2:=lE (most:=300) (bad:=false) q rfl (by omega) (by omega);have hl:(bF e).length=1+(aq e.v.toNat).length+(aq e.x.length).length+e.x.length:=by rw[q];simp;omega
   have hd:(bF e).drop (1+(aq e.v.toNat).length+(aq e.x.length).length)=e.x:=by
    rw[q,<-bg,Ad];simp;omega
   simp only[aI,bB,dO,a7]at n1 n2;unfold cD;simp only[d,n1,n2,ae (show ¬(4:Nat)=1 by decide),ae (show ¬(4:Nat)=2 by decide),bY];rw[ae (by rw[hl];simp),hd,dE,F];obtain⟨G,H,I,z,B,C,D,E⟩:=e;simp only at hk;subst hk;simp only[bN,bM.mk.injEq]at g;obtain⟨_,_,q3,q4,q5,q6,q7,q8⟩:=g
   subst_vars
   rfl
 obtain⟨c,r,N,Sj⟩:=main;unfold mB;rw[N];simp only;rw[<-N,Sj];simp[y]
theorem rY{bs:Bs}{e:bM}(h:mB bs=some e):bR e=true/\bs=bF e:=by
 unfold mB at h;split at h
 ·cases h
 ·split at h
  ·cases h
  ·rename_i d bad f;split at h
   ·rename_i b;cases h;have a:=b.2;unfold ct at a;split at a
    ·rename_i c;cases a;exact⟨c,rfl⟩
    ·cases a
   ·cases h
theorem nS:∀l m:List bM,bj (l++m)=bj l++bj m
 | [],m=>rfl
 |e::r,m=>by simp[bj,nS r m]
theorem KV{e:bM}(h:bR e=true):(bF e).length<=400:=vQ (j9 h)
abbrev zI:List S:=[iz,iz,iz,iz,.int .u32 0]
theorem Au{len cap lo hi m:Nat}(h:lo<=hi)(k:hi<=m)(l:m<=cap):dr len cap (some (J lo)) (some (J hi)) (some (J m))=some (lo,hi,m):=by
 have e:∀{a b:Nat},a<=b->mi (J a) b=some a:=λ {a b} h=>by
  have c:(a:Int)<=(b:Int):=by omega
  simp[mi,h]
 delta dr
 dsimp only;rw[e l];dsimp only;rw[e k];dsimp only;rw[e h]
theorem Gu:aS Tryz.prog (rM 136 5 zI):=by
 refine Bq (tm Tryz.prog 8 1) ?_;intro f P σ r h;unfold rM at h;split at h
 ·cases h
 ·rename_i E;have u:=dY E;subst u;split at h
  ·rename_i i o n q a b;split at h
   ·rename_i vs p;split at h
    ·rename_i D;have t:=fL D;obtain⟨rfl,C,rfl,s,G,H⟩:=t;cases h;obtain⟨k,rfl⟩:∃k:Nat,a=k:=⟨a.toNat,by omega⟩;refine⟨i,o,n,5,n-1,_,_,_,rfl,p,rfl,λc l => ?_⟩;have e:k+1<=n:=(by omega);rw[iY];rw[(ak rfl Tryz.func136 (by kernel_rfl)).trans (M0 _ _ _ _ _ _)];unfold f136;have A:(k:Int)+1=((k+1:Nat):Int):=(by omega);rw[A]
     have L:aB 5 (Z (.sl i o n (.known c))) (some (J (k:Int))) (some (J ((k+1:Nat):Int))) (some (J (n:Int)))=some (Z (.sl i (if n=k then o else o+k*5) (k+1-k) (.known (n-k)))):=by
      simp only[aB,Au (show k<=k+1 by omega) e l]
     have M:aB 5 (Z (.sl i o n (.known c))) none (some (J (k:Int))) none=some (Z (.sl i o k (.known c))):=by
      simp only[aB,fM (show k<=c by omega),o4,iX,ite_self,uK]
     have N:aB 5 (Z (.sl i o n (.known c))) (some (J ((k+1:Nat):Int))) none none=some (Z (.sl i (if c=k+1 then o else o+(k+1)*5) (n-(k+1)) (.known (c-(k+1))))):=by
      simp only[aB,eH e l]
     have src:gZ 5 (Z (.sl i (if c=k+1 then o else o+(k+1)*5) (n-(k+1)) (.known (c-(k+1))))) σ.get=some (n-(k+1),(vs.drop (o+(k+1)*5)).take ((n-1-k)*5)):=by
      by_cases y:n-(k+1)=0
      ·have:n-1-k=0:=(by omega);simp[gZ,y,this]
      ·have d:¬c=k+1:=(by omega);have j:o+(k+1)*5+(n-(k+1))*5<=vs.length:=(by omega);have m:n-1-k=n-(k+1):=(by omega);simp only[gZ,ae y,ae d,p,af j,m]
     obtain⟨v1,g⟩:=aZ (aQ vs (o+k*5) ((vs.drop (o+(k+1)*5)).take ((n-1-k)*5)));have F:v1.length=vs.length:=by rw[g,fB]
     have z:aF 5 40 (Z (.sl i o k (.known c))) (Z (.sl i (if c=k+1 then o else o+(k+1)*5) (n-(k+1)) (.known (c-(k+1))))) σ=some (Z (.sl i o (n-1) (.known c)),σ.set i (.K true v1)):=by
      have d:(n-1)*40<=140737488355328:=(by omega);have j:n-1<=c:=(by omega);have m:True/\o+k*5+(n-(k+1))*5<=vs.length:=⟨trivial,by omega⟩;have B:k+(n-(k+1))=n-1:=(by omega);simp only[aF,src,ae (show ¬(5:Nat)=0 by decide),p,B];rw[af d,af j,af m,g]
     have O:aB 5 (Z (.sl i o (n-1) (.known c))) (some (J ((n-1:Nat):Int))) (some (J (n:Int))) none=some (Z (.sl i (o+(n-1)*5) (n-(n-1)) (.known (c-(n-1))))):=by
      have d:¬c=n-1:=(by omega);simp only[aB,pG (show n-1<=n by omega) l,ae d]
     have x:nM 5 zI (Z (.sl i (o+(n-1)*5) (n-(n-1)) (.known (c-(n-1))))) (σ.set i (.K true v1))=some (tt,(σ.set i (.K true v1)).set i (.K true (aQ v1 (o+(n-1)*5) zI))):=by
      have d:n-(n-1)=1:=(by omega);have j:o+(n-1)*5+1*5<=v1.length:=(by omega);simp only[nM,d,ae (show ¬(1:Nat)=0 by decide),St.get_set_same,af j];rfl
     have v:aG (Z (.sl i o n (.known c)))=some (J (n:Int)):=rfl;have w:aG (Z (.sl i o (n-1) (.known c)))=some (J ((n-1:Nat):Int)):=rfl;simp only[zI]at x ⊢;clear l G s H e C;have I:¬((k:Int)=((k+1:Nat):Int)):=(by omega);rw[<-g];simp only[v,w,dt,L,eS,aR I,iF,M,N,z,fN,O,x]
    ·cases h
   ·cases h
  ·cases h
theorem OB:Lg Tryz.prog 177=true:=by kernel_rfl
theorem Kt(a w b z:List S)(c:z.length=w.length+b.length):aQ (aQ (a++z) a.length w) (a.length+w.length) b=a++w++b:=by
 rw[cy (a++z) a.length w (by simp;omega),rB,cy _ _ b (by simp;omega)];rw[rD (by simp),ja (by simp;omega),lg]
theorem Ku(a w b r:List S)(i:w.length<=r.length):(aQ (aQ (a++b++r) (a.length+w.length) b) a.length w).take (a.length+w.length+b.length)=a++w++b:=by
 have f:∃q,aQ (a++b++r) (a.length+w.length) b=a++(q++b++r.drop w.length)/\q.length=w.length:=by
  refine⟨(b++r).take w.length,?_,by simp;omega⟩;rw[cy _ _ b (by simp;omega),bg a b r,FM,Ab];have c:a.take (a.length+w.length)=a:=b8 (by omega);have d:a.drop (a.length+w.length+b.length)=[]:=ja (by omega);have e:a.length+w.length+b.length-a.length=b.length+w.length:=by omega
  rw[c,d,e,o3,dD,Ab,ja (by omega),dD,o3];simp only[bg]
 obtain⟨q,h,g⟩:=f;rw[h,cy _ _ w (by simp;omega),rB,Ab,ja (by omega),dD,o3,bg q,Ad g,<-bg (a++w),rD (by simp;omega)]
section
variable {σ:St}{i j p n k c:Nat}{vs us:List S}
theorem xA(e:k<n)(f:n<=1000000) :
 ah .eql (J 1) (J 0)=some (B false)/\ah .eql (J (k:Int)) (J (n:Int))=some (B false)/\ah .add (J (n:Int)) (J 1)=some (J ((n+1:Nat):Int)) ∧
  ah .add (J (k:Int)) (J 1)=some (J ((k+1:Nat):Int))/\ah .sub (J ((n+1:Nat):Int)) (J (k:Int))=some (J ((n+1-k:Nat):Int)):=by
 have a:¬((k:Int)=(n:Int)):=by omega
 have b:IntKind.i64.wrap ((n:Int)+1)=((n+1:Nat):Int):=by rw[aw _ (by omega) (by omega)];omega
 have c:IntKind.i64.wrap ((k:Int)+1)=((k+1:Nat):Int):=by rw[aw _ (by omega) (by omega)];omega
 have d:IntKind.i64.wrap (((n+1:Nat):Int)-(k:Int))=((n+1-k:Nat):Int):=by rw[aw _ (by omega) (by omega)];omega
 refine⟨rfl,?_,?_,?_,?_⟩
 ·rw[eS,aR a]
 ·rw[cw,b]
 ·rw[cw,c]
 ·rw[iR,d]
theorem Kq(d:Nat)(X:σ.wf)(hi:σ.get i=some (.K true vs))(L:σ.get j=some (.K true us))(M:k<n)(hn:n<=1000000)(hv:n*5<=vs.length)(Sk:i≠j)(hp:p+5<=us.length) :
 ∃E,f135 (gA Tryz.prog 8 pR d) 8 (Z (.sl i 0 n (.known n))) (J k) (Z (.sl j p 1 (.known 1))) σ=some (Z (.sl σ.size 0 (n+1) (.grown 5)),E)/\E.size=σ.size+1 ∧
  E.get σ.size=some (.K true (vs.take (k*5)++(us.drop p).take 5++(vs.drop (k*5)).take ((n-k)*5)))/\∀b,b<σ.size->E.get b=σ.get b:=by
 obtain⟨f1,f2,f3,f4,f5⟩:=xA M hn;obtain⟨N,u⟩:=aZ (σ.size);obtain⟨a,H⟩:=aZ (vs.take (k*5));obtain⟨w,T⟩:=aZ ((us.drop p).take 5);obtain⟨b,I⟩:=aZ ((vs.drop (k*5)).take ((n-k)*5));have O:a.length=k*5:=by rw[H,bb];omega
 have P:w.length=5:=by rw[T];simp;omega
 have Sl:b.length=(n-k)*5:=by rw[I];simp;omega
 obtain⟨z,hz⟩:=aZ (eD (n+1-k) zI);have Sm:z.length=(n+1-k)*5:=by rw[hz];exact yn (e:=5) rfl _
 have U:aG (Z (.sl i 0 n (.known n)))=some (J (n:Int)):=rfl;have V:aG (Z (.sl j p 1 (.known 1)))=some (J 1):=rfl;have cp:Av (Z (.sl i 0 n (.known n)))=some (J (n:Int)):=rfl
 have gt:ah .gtr (J ((n+1:Nat):Int)) (J (n:Int))=some (B true):=by
  rw[oN,aK (by omega)]
 have p1:aB 5 (Z (.sl i 0 n (.known n))) (some (J (k:Int))) none none=some (Z (.sl i (k*5) (n-k) (.known (n-k)))):=by
  have c:¬n=k:=by omega
  simp only[aB,eH (show k<=n by omega) (au n),ae c,a7]
 have p2:aB 5 (Z (.sl i 0 n (.known n))) none (some (J (k:Int))) none=some (Z (.sl i 0 k (.known n))):=by
  simp only[aB,fM (show k<=n by omega),o4,iX,ite_self,uK]
 obtain⟨m,g⟩:=aZ (σ.push (.K true (a++z)))
 have Sj:nN 5 40 [iz,iz,iz,iz,.int .u32 0] (Z (.sl i 0 k (.known n))) (J ((n+1-k:Nat):Int)) σ=some (Z (.sl N 0 (n+1) (.grown 5)),m):=by
  have c:0<((n+1-k:Nat):Int)/\k<=n/\n<k+((n+1-k:Nat):Int).toNat/\(k+((n+1-k:Nat):Int).toNat)*40<=140737488355328/\(5:Nat)≠0/\0+k*5<=vs.length:=by
   rw[iY];refine⟨by omega,by omega,by omega,by omega,by decide,by omega⟩
  have s:k+((n+1-k:Nat):Int).toNat=n+1:=by omega
  simp only[nN,hi];rw[af c,s,iY,ek,<-H,g,hz,u]
 have g1:m.get N=some (.K true (a++z)):=by rw[g,u];exact St.ec
 have W:∀q,q≠N->m.get q=σ.get q:=λq hq=>by rw[g];exact St.j5 (by rw[<-u];exact hq)
 have p3:aB 5 (Z (.sl N 0 (n+1) (.grown 5))) (some (J (k:Int))) none none=some (Z (.sl N (k*5) (n+1-k) (.grown 5))):=by
  simp only[aB,eH (show k<=n+1 by omega) (au (n+1)),af trivial,af (show k<n+1 by omega),a7]
 have p4:aB 5 (Z (.sl N 0 (n+1) (.grown 5))) (some (J ((k+1:Nat):Int))) none none=some (Z (.sl N ((k+1)*5) (n-k) (.grown 5))):=by
  have c:n+1-(k+1)=n-k:=by omega
  simp only[aB,eH (show k+1<=n+1 by omega) (au (n+1)),af trivial,af (show k+1<n+1 by omega),a7,c]
 have jN:j≠N:=by have:=X.lt L;omega
 have iN:i≠N:=by have:=X.lt hi;omega
 have y:m.get j=some (.K true us):=by rw[W j jN];exact L
 have A:gZ 5 (Z (.sl j p 1 (.known 1))) m.get=some (1,w):=by
  simp only[gZ,ae (show ¬(1:Nat)=0 by decide),y,lM,af hp,T]
 have Q:Nat.min 1 (n+1-k)=1:=by show min 1 (n+1-k)=1;omega
 obtain⟨D,l⟩:=aZ (aQ (a++z) (k*5) w);obtain⟨o,f⟩:=aZ (m.set N (.K true D))
 have r:jc 5 (Z (.sl N (k*5) (n+1-k) (.grown 5))) (Z (.sl j p 1 (.known 1))) m=some (J ((1:Nat):Int),o):=by
  have c:k*5+1*5<=(a++z).length:=by simp;omega
  have s:w.take (1*5)=w:=b8 (by omega);simp only[jc,A,g1,Q];rw[af c,s,f,l]
 have g2:o.get N=some (.K true D):=by rw[f];exact St.dh
 have x:o.get i=some (.K true vs):=by rw[f,St.bO iN,W i iN];exact hi
 have S:¬n-k=0:=by omega
 have C:gZ 5 (Z (.sl i (k*5) (n-k) (.known (n-k)))) o.get=some (n-k,b):=by
  have c:k*5+(n-k)*5<=vs.length:=by omega
  simp only[gZ,ae S,x,af c,I]
 have R:Nat.min (n-k) (n-k)=n-k:=by show min (n-k) (n-k)=n-k;omega
 obtain⟨Y,t⟩:=aZ (aQ D ((k+1)*5) b);obtain⟨s3,h⟩:=aZ (o.set N (.K true Y))
 have G:jc 5 (Z (.sl N ((k+1)*5) (n-k) (.grown 5))) (Z (.sl i (k*5) (n-k) (.known (n-k)))) o=some (J ((n-k:Nat):Int),s3):=by
  have c:(k+1)*5+(n-k)*5<=D.length:=by rw[l,fB];simp;omega
  have s:b.take ((n-k)*5)=b:=b8 (by omega);simp only[jc,C,g2,R];rw[af c,s,h,t]
 have v:Y=a++w++b:=by
  have:=Kt a w b z (by omega);rw[O,P]at this;rw[t,l,bJ,lM];exact this
 refine⟨s3,?_,by rw[h,f,g];rfl,by rw[<-u,h,St.get_set_same,v,H,T,I],λq hq => ?_⟩
 ·unfold f135;rw[<-u];clear hi L x y hv hp X;have F:((1:Nat):Int)=1:=rfl;rw[F]at r;simp only[p1,U,V,dt,f1,iF,f2,f3,cp,gt,fk,p2,f5,Sj,fN,p3,r,f4,p4,G]
 ·rw[h,f,St.bO (by omega),St.bO (by omega),W q (by omega)]
theorem Ks(d:Nat)(hi:σ.get i=some (.K true vs))(V:σ.get j=some (.K true us))(X:k<n)(hn:n<=1000000)(U:n+1<=c)(hv:vs.length=c*5)(D:i≠j)(hp:p+5<=us.length) :
 ∃I B,f135 (gA Tryz.prog 8 pR d) 8 (Z (.sl i 0 n (.known c))) (J k) (Z (.sl j p 1 (.known 1))) σ=some (Z (.sl i 0 (n+1) (.known c)),I)/\I.size=σ.size ∧
  I.get i=some (.K true B)/\B.length=vs.length/\B.take ((n+1)*5)=vs.take (k*5)++(us.drop p).take 5++(vs.drop (k*5)).take ((n-k)*5)/\∀b,b≠i->I.get b=σ.get b:=by
 obtain⟨f1,f2,f3,f4,f5⟩:=xA X hn;obtain⟨a,S⟩:=aZ (vs.take (k*5));obtain⟨w,hw⟩:=aZ ((us.drop p).take 5);obtain⟨b,H⟩:=aZ ((vs.drop (k*5)).take ((n-k)*5));obtain⟨r,hr⟩:=aZ (vs.drop (n*5));have Sj:a.length=k*5:=by rw[S,bb];omega
 have Sl:w.length=5:=by rw[hw];simp;omega
 have Sk:b.length=(n-k)*5:=by rw[H];simp;omega
 have Su:5<=r.length:=by rw[hr];simp;omega
 have Sp:vs=a++b++r:=by
  have e:vs.drop (k*5)=b++r:=by
   rw[H,hr];have:n*5=k*5+(n-k)*5:=by omega
   rw[this,<-lY];exact(rA _ _).symm
  rw[bg,<-e,S];exact(rA _ _).symm
 have Sr:aG (Z (.sl i 0 n (.known c)))=some (J (n:Int)):=rfl;have Ss:aG (Z (.sl j p 1 (.known 1)))=some (J 1):=rfl;have cp:Av (Z (.sl i 0 n (.known c)))=some (J (c:Int)):=rfl
 have gt:ah .gtr (J ((n+1:Nat):Int)) (J (c:Int))=some (B false):=by
  rw[oN,aR (by omega)]
 have p0:aB 5 (Z (.sl i 0 n (.known c))) (some (J (k:Int))) none none=some (Z (.sl i (k*5) (n-k) (.known (c-k)))):=by
  have e:¬c=k:=by omega
  simp only[aB,eH (show k<=n by omega) (show n<=c by omega),ae e,a7]
 have p1:aB 5 (Z (.sl i 0 n (.known c))) none (some (J ((n+1:Nat):Int))) none=some (Z (.sl i 0 (n+1) (.known c))):=by
  simp only[aB,fM U,o4,iX,ite_self,uK]
 have p2:aB 5 (Z (.sl i 0 (n+1) (.known c))) (some (J ((k+1:Nat):Int))) none none=some (Z (.sl i ((k+1)*5) (n-k) (.known (c-(k+1))))):=by
  have e:¬c=k+1:=by omega
  have R:n+1-(k+1)=n-k:=by omega
  simp only[aB,eH (show k+1<=n+1 by omega) U,ae e,a7,R]
 have p3:aB 5 (Z (.sl i 0 (n+1) (.known c))) (some (J (k:Int))) none none=some (Z (.sl i (k*5) (n+1-k) (.known (c-k)))):=by
  have e:¬c=k:=by omega
  simp only[aB,eH (show k<=n+1 by omega) U,ae e,a7]
 have ov:wz Tryz.prog 177 [Z (.sl j p 1 (.known 1)),Z (.sl i ((k+1)*5) (n-k) (.known (c-(k+1))))] σ=some (B false,σ):=by
  have e:Nat.beq j i=false:=by
   cases h:Nat.beq j i with
   |false=>rfl
   |true=>exact absurd (dY h).symm D
  simp only[wz,Eu,hi,V,e,OB]
 have no:gH .not (B false)=some (B true):=rfl
 have F:gZ 5 (Z (.sl i (k*5) (n+1-k) (.known (c-k)))) σ.get=some (n+1-k,(vs.drop (k*5)).take ((n+1-k)*5)):=by
  have e:k*5+(n+1-k)*5<=vs.length:=by omega
  simp only[gZ,ae (show ¬n+1-k=0 by omega),hi,af e]
 have Sm:Nat.min (n+1-k) (n-k)=n-k:=by show min (n+1-k) (n-k)=n-k;omega
 have T:((vs.drop (k*5)).take ((n+1-k)*5)).take ((n-k)*5)=b:=by
  rw[gm,H]
  congr 1;omega
 obtain⟨y,t⟩:=aZ (aQ vs ((k+1)*5) b);obtain⟨x,g⟩:=aZ (σ.set i (.K true y))
 have Q:jc 5 (Z (.sl i ((k+1)*5) (n-k) (.known (c-(k+1))))) (Z (.sl i (k*5) (n+1-k) (.known (c-k)))) σ=some (J ((n-k:Nat):Int),x):=by
  have e:(k+1)*5+(n-k)*5<=vs.length:=by omega
  simp only[jc,F,hi,Sm];rw[af e,T,g,t]
 have g1:x.get i=some (.K true y):=by rw[g];exact St.dh
 have E:x.get j=some (.K true us):=by rw[g,St.bO (λh=>D h.symm)];exact V
 have G:gZ 5 (Z (.sl j p 1 (.known 1))) x.get=some (1,w):=by
  simp only[gZ,ae (show ¬(1:Nat)=0 by decide),E,lM,af hp,hw]
 have Sn:Nat.min 1 (n+1-k)=1:=by show min 1 (n+1-k)=1;omega
 obtain⟨N,u⟩:=aZ (aQ y (k*5) w);obtain⟨s2,o⟩:=aZ (x.set i (.K true N));have Y:y.length=vs.length:=by rw[t,fB]
 have z:jc 5 (Z (.sl i (k*5) (n+1-k) (.known (c-k)))) (Z (.sl j p 1 (.known 1))) x=some (J ((1:Nat):Int),s2):=by
  have e:k*5+1*5<=y.length:=by omega
  have R:w.take (1*5)=w:=b8 (by omega);simp only[jc,G,g1,Sn];rw[af e,R,o,u]
 have C:N.take ((n+1)*5)=a++w++b:=by
  have:=Ku a w b r (by omega);rw[<-Sp,Sj,Sl,Sk]at this;have e1:k*5+5=(k+1)*5:=by omega
  have e2:(k+1)*5+(n-k)*5=(n+1)*5:=by omega
  rw[e1,e2]at this;rw[u,t];exact this
 refine⟨s2,N,?_,by rw[o,g];simp,by rw[o];exact St.dh,by rw[u,fB,Y],by rw[C,S,hw,H],λq hq=>by rw[o,g,St.bO hq,St.bO hq]⟩;unfold f135;clear hi V E hv hp;have O:((1:Nat):Int)=1:=rfl;rw[O]at z;simp only[p0,Sr,Ss,dt,f1,iF,f2,f3,cp,gt,p1,f4,p2,ov,fN,no,fk,p3,Q,z]
end
theorem r6:aS Tryz.prog (o9 135 5):=by
 have body:∀(a0 a b:T) (σ:St),gA Tryz.prog 8 pR 1 135 [a0,a,b] σ=f135 (gA Tryz.prog 8 pR 0) 8 a0 a b σ:=λa0 a b σ=>
  (ak rfl Tryz.func135 (by kernel_rfl)).trans (EE _ _ _ _ _ _)
 refine Go.Abs.F.r6 (tm Tryz.prog 8 1) ?_ ?_
 ·intro σ i n k j p vs us t f g h l m o q;obtain⟨r,d,e⟩:=Kq 0 t f g h l m o q;exact⟨r,(body _ _ _ _).trans d,e⟩
 ·intro σ i n k j p c vs us f g h l m o q s;obtain⟨r,B,d,e⟩:=Ks 0 f g h l m o q s;exact⟨r,B,(body _ _ _ _).trans d,e⟩
structure eG where
 i:Int
 t:Int
 f:Int
 o:Int
 u:Int
 deriving DecidableEq
def cI(x:eG):List S:=[.int .i64 x.i,.int .i64 x.t,.int .i64 x.f,.int .i64 x.o,.int .u32 x.u]
abbrev AI(x:eG):T := .v (.agg (cI x))
theorem eY(x:eG):(cI x).length=5:=rfl
def Ao(s:St)(x:S)(l:List eG):Prop:=(x = .av/\l=[])\/∃c vs,x = .sl c 0 l.length (.grown 5)/\s.get c=some (.K true vs)/\vs.take (l.length*5)=cells cI l
section
variable {s t:St}{x:S}{l:List eG}
theorem Ao.rd(h:Ao s x l):Rd 5 s x l.length (cells cI l):=by
 rcases h with ⟨rfl,rfl⟩ | ⟨c,vs,rfl,j,g⟩
 ·exact Rd.nil 5 s
 ·have d:=dn (e:=5) eY l;refine⟨d,.inr ⟨c,0,_,true,vs,rfl,j,?_,by rw[ek];exact g⟩,rfl⟩;have:=bw List.length g;rw[bb,d]at this;omega
theorem Ao.keep(h:Ao s x l)(e:∀c,own x=some c->t.get c=s.get c):Ao t x l:=by
 rcases h with ⟨rfl,rfl⟩ | ⟨c,vs,rfl,d,g⟩
 ·exact .inl ⟨rfl,rfl⟩
 ·exact .inr ⟨c,vs,rfl,by rw[e c rfl];exact d,g⟩
theorem Ao.lt(h:Ao s x l)(j:s.wf){c:Nat}(e:own x=some c):c<s.size:=by
 rcases h with ⟨rfl,rfl⟩ | ⟨d,vs,rfl,g,k⟩
 ·cases e
 ·cases e;exact j.lt g
theorem Ao.Ia(h:Ao s x l){j:Nat}{n:Int}{a:eG}(f:n=j)(d:l[j]? = some a):∃p,ar 5 (Z x) (J n)=some p/\ay 5 p s.get=some (AI a):=by
 obtain⟨c,p,e,_,b⟩:=Rd.at h.rd f (bq.1 d).1;rw[ji eY d]at b;exact⟨_,e,b⟩
def kY(id:Int)(a:eG):Int:=IntKind.i64.wrap (a.i-id)
theorem MO{id:Int}{a:eG}(b:0<=id)(c:id<=1073741824)(d:0<=a.i)(e:a.i<=1073741824):kY id a=a.i-id:=aw _ (by omega) (by omega)
theorem yG(d:Nat)(h:s.wf)(a:eG)(id:Int):∃t,R (d+1) 176 [AI a,J id] s=some (J (kY id a),t)/\Gr s t:=by
 rw[JL];unfold f176;obtain⟨c,b⟩:=aZ (s.push (.K true (cI a)));have g:aE s (b6 (AI a))=some (Z (.ptr s.size 0),c):=by rw[b];rfl
 have e:ab 0 (Z (.ptr s.size 0))=some (Z (.ptr s.size 0)):=rfl;have f:aa (Z (.ptr s.size 0)) c.get=some (J a.i):=ag (by rw[b];exact St.ec) rfl;refine⟨c,?_,by rw[b];exact Gr.push h _⟩;simp only[g,fN,e,dt,f,iR];rfl
theorem IW{aC:bc}{f:Nat}{args:List T}{σ:St}(h:fO Tryz.prog f=true):dyn Tryz.prog aC (Z (.jX f [])) args σ=aC f args σ:=by
 simp only[dyn,h,bY,jz,lg]
theorem AJ:fO Tryz.prog 176=true:=by kernel_rfl
structure Found(l:List eG)(id:Int)(k:Nat):Prop where
 le:k<=l.length
 low:(∀(a b:Nat) (x y:eG),a<b->l[a]? = some x->l[b]? = some y->kY id y<0->kY id x<0)->∀(a:Nat) (x:eG),a<k->l[a]? = some x->kY id x<0
 high:(∀(a b:Nat) (x y:eG),a<b->l[a]? = some x->l[b]? = some y->kY id y<0->kY id x<0)->∀(a:Nat) (x:eG),k<=a->l[a]? = some x->¬kY id x<0
def tL(l:List eG)(id:Int)(k:Nat):Bool:=match l[k]? with
 |some a=>decide (kY id a=0)
 |none=>false
theorem ML(d:Nat)(W:s.wf)(h:Ao s x l)(hl:l.length<=8000)(id:Int):∃k t,R (d+2) 175 [Z x,J id,Z (.jX 176 [])] s=some (.c6 [.s (.int .i64 ((k:Nat):Int)),.s (.bool (tL l id k))],t)/\Gr s t/\Found l id k:=by
 rw[JK];unfold f175;have Sl:=h.rd.lens
 have I:∀(u:St) (a:eG),u.wf->∃t,dyn Tryz.prog (R (d+1)) (Z (.jX 176 [])) [AI a,J id] u=some (J (kY id a),t)/\Gr u t:=λu a F=>by
  obtain⟨t,e,g⟩:=yG d F a id;exact⟨t,by rw[IW AJ];exact e,g⟩
 obtain⟨B,P⟩:=aZ (∀(a b:Nat) (x y:eG),a<b->l[a]? = some x->l[b]? = some y->kY id y<0->kY id x<0)
 obtain⟨j,X,lp,hj⟩:=aL (f:=qw (R (d+1)) 8192)
  (λq v u=>∃lo hi:Nat,hi-lo<=q/\lo<=hi/\hi<=l.length/\v=[Z x,J id,Z (.jX 176 []),J (l.length:Int),J (lo:Int),J (hi:Int)]/\Gr s u ∧
   (B->(∀(a:Nat) (y:eG),a<lo->l[a]? = some y->kY id y<0)/\∀(a:Nat) (y:eG),hi<=a->l[a]? = some y->¬kY id y<0))
  (λj u=>∃k:Nat,j = .exit 0 [Z x,J id,Z (.jX 176 []),J (l.length:Int),J ((k:Nat):Int)]/\k<=l.length/\Gr s u ∧
   (B->(∀(a:Nat) (y:eG),a<k->l[a]? = some y->kY id y<0)/\∀(a:Nat) (y:eG),k<=a->l[a]? = some y->¬kY id y<0)) (by
  rintro q v u ⟨lo,hi,hq,Sm,E,rfl,g,hinv⟩;by_cases Sn:lo<hi
  ·left;obtain⟨m,Sp⟩:=aZ ((lo+hi) / 2);have Sr:lo<=m:=by omega
   have Ss:m<hi:=by omega
   have i:l[m]? = some l[m]:=aU (by omega);obtain⟨y,G⟩:=aZ (l[m]);rw[<-G]at i;have F:=h.keep (t:=u) λc w=>g.2.2 c (h.lt W w)
   obtain⟨p,M,N⟩:=F.Ia (n:=((m:Nat):Int)) rfl i;obtain⟨O,A,K⟩:=I u y g.wf;have C:(lo:Int)<(hi:Int):=by omega
   have Y:IntKind.i64.wrap ((lo:Int)+(hi:Int))=((lo+hi:Nat):Int):=by rw[aw _ (by omega) (by omega)];omega
   have Sj:az .u64 (J ((lo+hi:Nat):Int))=some (J6 ((lo+hi:Nat):Int)):=by
    show some (J6 (IntKind.u64.wrap ((lo+hi:Nat):Int)))=_
    rw[wrap64 _ (by omega)]
   have Sk:ah .shr (J6 ((lo+hi:Nat):Int)) (J6 1)=some (J6 ((m:Nat):Int)):=by
    have:=gW .u64 (lo+hi) 1 (by decide);rw[Sp];exact this
   have a4:az .i64 (J6 ((m:Nat):Int))=some (J ((m:Nat):Int)):=by
    show some (J (IntKind.i64.wrap ((m:Nat):Int)))=_
    rw[fJ _ (by omega)]
   have w1:IntKind.i64.wrap ((m:Int)+1)=((m+1:Nat):Int):=by rw[aw _ (by omega) (by omega)];omega
   by_cases w:kY id y<0
   ·refine⟨[Z x,J id,Z (.jX 176 []),J (l.length:Int),J ((m+1:Nat):Int),J (hi:Int)],O,q-1,?_,by omega,m+1,hi,by omega,by omega,E,rfl,g.trans K,λo=>⟨λa z Q D => ?_,(hinv o).2⟩⟩
    ·unfold qw;generalize R (d+1)=r,((lo+hi:Nat):Int)=LH,((m+1:Nat):Int)=M1 at*;simp[C,Y,Sj,Sk,a4,M,N,A,w,w1]
    ·by_cases e:a=m
     ·subst e;rw[i]at D;cases D;exact w
     ·rw[P]at o;exact o a m z y (by omega) D i w
   ·refine⟨[Z x,J id,Z (.jX 176 []),J (l.length:Int),J (lo:Int),J ((m:Nat):Int)],O,q-1,?_,by omega,lo,m,by omega,by omega,by omega,rfl,g.trans K,λo=>⟨(hinv o).1,λa z Q D H => ?_⟩⟩
    ·unfold qw;generalize R (d+1)=r,((lo+hi:Nat):Int)=LH,((m+1:Nat):Int)=M1 at*;simp[C,Y,Sj,Sk,a4,M,N,A,w]
    ·by_cases e:a=m
     ·subst e;rw[i]at D;cases D;exact w H
     ·rw[P]at o;exact w (o m a y z (by omega) i D H)
  ·right;have V:lo=hi:=by omega
   subst V;refine⟨_,u,?_,(λv hv=>by cases hv),lo,rfl,E,g,hinv⟩;have C:¬(lo:Int)<(lo:Int):=by omega
   unfold qw;simp[C]) 8192 l.length [Z x,J id,Z (.jX 176 []),J (l.length:Int),J 0,J (l.length:Int)] s
  ⟨0,l.length,by omega,by omega,by omega,rfl,Gr.refl W,λ_=>⟨λa y Q=>by omega,λa y Q G=>by have:=(bq.1 G).1;omega⟩⟩ (by omega)
 obtain⟨k,rfl,hk,g,hinv⟩:=hj;rw[P]at hinv;have L:Found l id k:=⟨hk,λm=>(hinv m).1,λm=>(hinv m).2⟩;by_cases U:k<l.length
 ·have i:l[k]? = some l[k]:=aU U;obtain⟨y,G⟩:=aZ (l[k]);rw[<-G]at i;have F:=h.keep (t:=X) λc w=>g.2.2 c (h.lt W w)
  obtain⟨p,M,N⟩:=F.Ia (n:=((k:Nat):Int)) rfl i;obtain⟨O,A,K⟩:=I X y g.wf;have C:((k:Nat):Int)<(l.length:Int):=by omega
  have S:tL l id k=decide (kY id y=0):=by simp only[tL,i]
  refine⟨k,O,?_,g.trans K,L⟩;rw[S];clear hinv L I;generalize R (d+1)=r,kY id y=CY at*;simp[Sl,lp,C,M,N,A,aD,a8]
 ·have T:k=l.length:=by omega
  have S:tL l id k=false:=by simp only[tL,iS (by omega:l.length<=k)]
  have C:¬((k:Nat):Int)<(l.length:Int):=by omega
  refine⟨k,X,?_,g,L⟩;rw[S];clear hinv L I T;generalize R (d+1)=r at*;simp[Sl,lp,C,aD,a8]
theorem N1{a e i o n q j p m c:Nat}{k:Int}{σ:St}{vs us:List S}(hi:σ.get i=some (.K true vs))(d:σ.get j=some (.K true us))
 (b:decide (q=e/\o=0/\0<=k/\k<n/\m=1/\c=1/\n<=1000000/\n*e<=vs.length/\i≠j/\p+e<=us.length/\e≠0)=true) :
 o9 a e a [Z (.sl i o n (.grown q)),J k,Z (.sl j p m (.known c))] σ=some (Z (.sl σ.size 0 (n+1) (.grown e)),(σ.set i .dead).push (.K true (vs.take (k.toNat*e)++(us.drop p).take e++(vs.drop (k.toNat*e)).take ((n-k.toNat)*e)))):=by
 have f:Nat.beq a a=true:=kQ a
 delta o9
 dsimp only;rw[f];dsimp only;rw[hi,d];dsimp only;rw[b]
theorem Kr{a e i o n q j p m c:Nat}{k:Int}{σ:St}{vs us:List S}(hi:σ.get i=some (.K true vs))(d:σ.get j=some (.K true us))
 (b:decide (q=e/\o=0/\0<=k/\k<n/\m=1/\c=1/\n<=1000000/\n*e<=vs.length/\i≠j/\p+e<=us.length/\e≠0)=false) :
 o9 a e a [Z (.sl i o n (.grown q)),J k,Z (.sl j p m (.known c))] σ=none:=by
 have f:Nat.beq a a=true:=kQ a
 delta o9
 dsimp only;rw[f];dsimp only;rw[hi,d];dsimp only;rw[b]
theorem MR{c e i o n q:Nat}{a b:Int}{z:List S}{σ:St}{vs:List S}(hi:σ.get i=some (.K true vs))(d:decide (q=e/\0<=a/\b=a+1/\b<=n/\n<=1000000/\o+n*e<=vs.length)=true) :
 rM c e z c [Z (.sl i o n (.grown q)),J a,J b] σ=some (Z (.sl i o (n-1) (.grown e)),(σ.set i (.K true (aQ vs (o+a.toNat*e) ((vs.drop (o+(a.toNat+1)*e)).take ((n-1-a.toNat)*e))))).set i (.K true (aQ (aQ vs (o+a.toNat*e) ((vs.drop (o+(a.toNat+1)*e)).take ((n-1-a.toNat)*e))) (o+(n-1)*e) z))):=by
 have f:Nat.beq c c=true:=kQ c
 delta rM
 dsimp only;rw[f];dsimp only;rw[hi];dsimp only;rw[d]
theorem EX(d:Nat){a0 a b:T}{s:St}(c:fq 135 [a0,a,b] s=none):R (d+1) 135 [a0,a,b] s=f135 (R d) 8192 a0 a b s:=
 (ak c Tryz.func135 (by kernel_rfl)).trans (EE _ _ _ _ _ _)
structure Qx(s t:St)(x y:S)(l:List eG):Prop where
 wf:t.wf
 le:s.size<=t.size
 ins:Ao t y l
 old:∀b,b<s.size->own x≠some b->t.get b=s.get b
 new:∀c,own y=some c->own x=some c\/s.size<=c
theorem N2(d:Nat)(D:s.wf)(h:Ao s x l)(hl:l.length<=8000){k j:Nat}(hk:k<=l.length){a:eG}(S:s.get j=some (.K true (cI a)))(X:∀c,own x=some c->c≠j) :
 ∃y t,R (d+1) 135 [Z x,J (k:Int),Z (.sl j 0 1 (.known 1))] s=some (Z y,t)/\Qx s t x y (l.take k++a::l.drop k):=by
 have u:=dn (e:=5) eY l;have Sm:=D.lt S
 have src:gZ 5 (Z (.sl j 0 1 (.known 1))) s.get=some (1,cI a):=by
  simp only[gZ,ae (show ¬(1:Nat)=0 by decide),S];rw[af (show 0+1*5<=(cI a).length by simp[cI])];rfl
 have z:aG (Z (.sl j 0 1 (.known 1)))=some (J 1):=rfl;have U:ah .eql (J 1) (J 0)=some (B false):=rfl;rcases h with ⟨rfl,rfl⟩ | ⟨c,vs,rfl,C,I⟩
 ·-- a nil list
  have Y:k=0:=by simpa using hk
  subst Y
  have hp:fq 135 [Z .av,J ((0:Nat):Int),Z (.sl j 0 1 (.known 1))] s=none:=by
   rw[vO];rfl
  rw[EX d hp];unfold f135;have T:aB 5 (Z .av) (some (J ((0:Nat):Int))) none none=some (Z .av):=rfl
  have F:aF 5 40 (Z .av) (Z (.sl j 0 1 (.known 1))) s=some (Z (.sl s.size 0 1 (.grown 5)),s.push (.K true (cI a))):=by
   simp only[aF,src];rfl
  have O:aG (Z .av)=some (J ((0:Nat):Int)):=rfl;have Q:ah .eql (J ((0:Nat):Int)) (J ((0:Nat):Int))=some (B true):=rfl;refine⟨.sl s.size 0 1 (.grown 5),s.push (.K true (cI a)),?_,St.bo D _,by simp,.inr ⟨s.size,cI a,rfl,St.ec,by simp[cells,cI]⟩,λb C _=>St.j5 (by omega),λc hc=>by cases hc;exact .inr (au _)⟩;simp only[T,dt,z,U,iF,O,Q,fk,F,fN]
 ·have V:c≠j:=X c rfl
  have Sk:l.length*5<=vs.length:=by
   have:=bw List.length I;rw[bb,u]at this;omega
  have w:=D.lt C;by_cases Sn:k<l.length
  ·-- ahead of E
   have r:decide ((5:Nat)=5/\(0:Nat)=0/\(0:Int)<=(k:Int)/\(k:Int)<(l.length:Int)/\(1:Nat)=1/\(1:Nat)=1/\l.length<=1000000/\l.length*5<=vs.length/\c≠j/\0+5<=(cI a).length/\(5:Nat)≠0)=true:=
    aK ⟨rfl,rfl,by omega,by omega,rfl,rfl,by omega,Sk,V,by simp[cI],by decide⟩
   have hi:o9 135 5 135 [Z (.sl c 0 l.length (.grown 5)),J (k:Int),Z (.sl j 0 1 (.known 1))] s =
    some (Z (.sl s.size 0 (l.length+1) (.grown 5)),(s.set c .dead).push (.K true (vs.take (k*5)++((cI a).drop 0).take 5++(vs.drop (k*5)).take ((l.length-k)*5)))):=by
    rw[N1 C S r,iY]
   have hr:=ep (P:=Tryz.prog) (N:=8192) (d:=d) (vO.trans hi);refine⟨_,_,hr,St.bo (St.wf_set D w _) _,by simp,.inr ⟨s.size,vs.take (k*5)++((cI a).drop 0).take 5++(vs.drop (k*5)).take ((l.length-k)*5),?_,?_,?_⟩,λb G o => ?_,λd r=>by cases r;exact .inr (au _)⟩
   ·have:(l.take k++a::l.drop k).length=l.length+1:=(by simp;omega);rw[this]
   ·exact St.bf (s.set c .dead) _
   ·have e1:(cI a).drop 0=cI a:=rfl;have e2:(cI a).take 5=cI a:=rfl
    have e3:vs.take (k*5)=cells cI (l.take k):=by
     rw[<-fp (e:=5) eY k l,<-I,gm]
     congr 1;omega
    have e4:(vs.drop (k*5)).take ((l.length-k)*5)=cells cI (l.drop k):=by
     rw[<-hG (e:=5) eY k l,<-I,nr]
     congr 1;omega
    have e5:cells cI (l.take k++a::l.drop k)=cells cI (l.take k)++cI a++cells cI (l.drop k):=by
     simp[cells]
    rw[e1,e2,e3,e4,<-e5,b8];rw[dn (e:=5) eY];omega
   ·rw[St.iq (s.set c .dead) _ (by simp;omega),St.bO (λe=>o (by rw[e];rfl))]
  ·-- at Sp end
   have Sj:k=l.length:=by omega
   subst Sj
   have r:decide ((5:Nat)=5/\(0:Nat)=0/\(0:Int)<=(l.length:Int)/\(l.length:Int)<(l.length:Int)/\(1:Nat)=1/\(1:Nat)=1/\l.length<=1000000/\l.length*5<=vs.length/\c≠j/\0+5<=(cI a).length/\(5:Nat)≠0)=false:=
    aR λh=>by omega
   have hp:fq 135 [Z (.sl c 0 l.length (.grown 5)),J (l.length:Int),Z (.sl j 0 1 (.known 1))] s=none:=by
    rw[vO,Kr C S r]
   rw[EX d hp];unfold f135
   have T:aB 5 (Z (.sl c 0 l.length (.grown 5))) (some (J (l.length:Int))) none none=some (Z (.emp c 5)):=by
    simp only[aB,eH (au l.length) (au l.length),af trivial,ae (Nat.lt_irrefl _)]
   have O:aG (Z (.sl c 0 l.length (.grown 5)))=some (J (l.length:Int)):=rfl
   have Q:ah .eql (J (l.length:Int)) (J (l.length:Int))=some (B true):=by
    rw[eS,aK rfl]
   have H:(l.take l.length++a::l.drop l.length).length=l.length+1:=by simp
   have n:l.take l.length++a::l.drop l.length=l++[a]:=by simp
   have g:cells cI (l++[a])=cells cI l++cI a:=by simp[cells]
   have Sl:True/\(l.length+1)*40<=140737488355328:=⟨trivial,by omega⟩;by_cases q:0+(l.length+1)*5<=vs.length
   ·have F:aF 5 40 (Z (.sl c 0 l.length (.grown 5))) (Z (.sl j 0 1 (.known 1))) s=some (Z (.sl c 0 (l.length+1) (.grown 5)),s.set c (.K true (aQ vs (0+l.length*5) (cI a)))):=by
     simp only[aF,src,ae (show ¬(5:Nat)=0 by decide),ae (show ¬(1:Nat)=0 by decide),C];rw[af Sl,af q]
    refine⟨.sl c 0 (l.length+1) (.grown 5),s.set c (.K true (aQ vs (0+l.length*5) (cI a))),by simp only[T,dt,z,U,iF,O,Q,fk,F,fN],St.wf_set D w _,by simp,.inr ⟨c,_,by rw[H],St.dh,?_⟩,λb G o=>St.bO (λe=>o (by rw[e];rfl)),λd r => .inl r⟩;rw[n,g,cy _ _ _ (by simp[cI];omega),a7,I,rD];simp[u,cI];omega
   ·have F:aF 5 40 (Z (.sl c 0 l.length (.grown 5))) (Z (.sl j 0 1 (.known 1))) s=some (Z (.sl s.size 0 (l.length+1) (.grown 5)),(s.set c .dead).push (.K true ((vs.drop 0).take (l.length*5)++cI a))):=by
     simp only[aF,src,ae (show ¬(5:Nat)=0 by decide),ae (show ¬(1:Nat)=0 by decide),C];rw[af Sl,ae q,af (by omega)]
    refine⟨.sl s.size 0 (l.length+1) (.grown 5),(s.set c .dead).push (.K true ((vs.drop 0).take (l.length*5)++cI a)),by simp only[T,dt,z,U,iF,O,Q,fk,F,fN],St.bo (St.wf_set D w _) _,by simp,.inr ⟨s.size,_,by rw[H],St.bf (s.set c .dead) _,?_⟩,λb G o => ?_,λd r=>by cases r;exact .inr (au _)⟩
    ·rw[n,g,ek,I,b8];simp[u,cI];omega
    ·rw[St.iq (s.set c .dead) _ (by simp;omega),St.bO (λe=>o (by rw[e];rfl))]
theorem MS(d:Nat)(E:s.wf)(h:Ao s x l)(V:l.length<=8000){k:Nat}(S:k<l.length) :
 ∃y t,R (d+1) 136 [Z x,J (k:Int),J ((k+1:Nat):Int)] s=some (Z y,t)/\Qx s t x y (l.take k++l.drop (k+1)):=by
 have r:=dn (e:=5) eY l;rcases h with ⟨rfl,rfl⟩ | ⟨c,vs,rfl,D,B⟩
 ·simp at S
 ·have U:l.length*5<=vs.length:=by
   have:=bw List.length B;rw[bb,r]at this;omega
  have j:=E.lt D
  have u:decide ((5:Nat)=5/\(0:Int)<=(k:Int)/\((k+1:Nat):Int)=(k:Int)+1/\((k+1:Nat):Int)<=(l.length:Int)/\l.length<=1000000/\0+l.length*5<=vs.length)=true:=
   aK ⟨rfl,by omega,by omega,by omega,by omega,by omega⟩
  obtain⟨A,q⟩:=aZ (aQ vs (0+k*5) ((vs.drop (0+(k+1)*5)).take ((l.length-1-k)*5)));obtain⟨o,C⟩:=aZ (aQ A (0+(l.length-1)*5) [iz,iz,iz,iz,.int .u32 0])
  have hi:rM 136 5 [iz,iz,iz,iz,.int .u32 0] 136 [Z (.sl c 0 l.length (.grown 5)),J (k:Int),J ((k+1:Nat):Int)] s =
   some (Z (.sl c 0 (l.length-1) (.grown 5)),(s.set c (.K true A)).set c (.K true o)):=by
   rw[MR D u,iY,<-q,<-C]
  have T:=ep (P:=Tryz.prog) (N:=8192) (d:=d) (Lm hi);have n:(l.take k++l.drop (k+1)).length=l.length-1:=by simp;omega
  refine⟨_,_,T,St.wf_set (St.wf_set E j _) (by simpa using j) _,by simp,.inr ⟨c,o,by rw[n],St.dh,?_⟩,λb Q z => ?_,λd u => .inl u⟩
  ·have F:vs.take (k*5)=cells cI (l.take k):=by
    rw[<-fp (e:=5) eY k l,<-B,gm]
    congr 1;omega
   have G:(vs.drop ((k+1)*5)).take ((l.length-1-k)*5)=cells cI (l.drop (k+1)):=by
    rw[<-hG (e:=5) eY (k+1) l,<-B,nr]
    congr 1;omega
   have w:((vs.drop ((k+1)*5)).take ((l.length-1-k)*5)).length=(l.length-1-k)*5:=by simp;omega
   have O:A.length=vs.length:=by rw[q,fB]
   have H:A.take ((l.length-1)*5)=cells cI (l.take k)++cells cI (l.drop (k+1)):=by
    rw[q,a7,a7,cy _ _ _ (by rw[w];omega),F,G,rD];rw[aI,dn (e:=5) eY,dn (e:=5) eY];simp;omega
   have I:o.take ((l.length-1)*5)=A.take ((l.length-1)*5):=by
    rw[C,a7,cy _ _ _ (by simp;omega),bg,rD];simp;omega
   rw[n,I,H,dK]
  ·have g:b≠c:=λe=>z (by rw[e];rfl)
   rw[St.bO g,St.bO g]
end
structure gJ where
 l:List eG
 dV:List Int
 cX:kF
 v:Int
 w:Int
def wM(id:Int)(a:eG):Bool:=decide (a.i<id)
def gv(l:List eG)(id:Int):Nat:=(l.takeWhile (wM id)).length
def cH(l:List eG)(id:Int):Bool:=l.any λa=>decide (a.i=id)
def tM(e:bM):eG:=⟨e.i,e.t,e.f,e.o,e.u⟩
def r5(l:List eG)(a:eG):List eG:=l.take (gv l a.i)++a::l.drop (gv l a.i)
def yM(l:List eG)(id:Int):List eG:=l.take (gv l id)++l.drop (gv l id+1)
def cg(q:gJ)(e:bM):Int:=
 if bR e=true then(if e.k=1/\e.i∈q.dV then 7 else if e.k=2/\cH q.l e.i=false then 9 else if e.v<q.w then 12 else 0)else 1
def ed(q:gJ)(e:bM):gJ:=
 if e.k=1 then⟨r5 q.l (tM e),q.dV++[e.i],q.cX,q.v,e.v⟩
 else if e.k=2 then⟨yM q.l e.i,q.dV,q.cX,q.v,e.v⟩
 else if e.k=3 then⟨q.l,q.dV,q.cX,e.v,e.v⟩
 else⟨q.l,q.dV,(e3 e.x).1,q.v,e.v⟩
def bT(q:gJ):List bM->Int×gJ
 | []=>(0,q)
 |e::r=>if cg q e=0 then bT (ed q e) r else(cg q e,q)
def j4:gJ:=⟨[],[],gM,0,0⟩
structure H8(q:gJ):Prop where
 up:q.l.Pairwise λa b=>a.i<b.i
 OQ:∀a∈q.l,1<=a.i/\a.i<=1073741824
 ev:∀a∈q.l,a.i∈q.dV
 len:q.l.length<=q.dV.length
theorem yY:H8 j4:=⟨.nil,(by intro a h;simp[j4]at h),(by intro a h;simp[j4]at h),au _⟩
theorem zE{α:Type}{p:α->Bool}:∀(l:List α) (k:Nat),k<=l.length->(∀(a:Nat) (x:α),a<k->l[a]? = some x->p x=true)->(∀x,l[k]? = some x->p x=false)->(l.takeWhile p).length=k
 | [],k,h,_,_=>by simp at h;subst h;rfl
 |a::l,0,_,_,h=>by
  have:=h a rfl;simp[jB,this]
 |a::l,k+1,j,d,g=>by
  have e:=d 0 a (by omega) rfl;rw[jB,e];simp only[bY,bB];rw[zE l k (by simpa using j) (λb x n c=>d (b+1) x (by omega) (by simpa using c)) (λx c=>g x (by simpa using c))]
theorem Ma(l:List eG)(id:Int):l.take (gv l id)=l.takeWhile (wM id):=by
 unfold gv;induction l with
 |nil=>rfl
 |cons a l c=>
  rw[jB];split
  ·rw[bB,uG,c]
  ·rfl
theorem IV(l:List eG)(id:Int):l.drop (gv l id)=l.dropWhile (wM id):=by
 unfold gv;induction l with
 |nil=>rfl
 |cons a l c=>
  rw[jB,sG];split
  ·rw[bB,Ae,c]
  ·rfl
theorem BD{l:List eG}{id:Int}{a:eG}(h:a∈l.take (gv l id)):a.i<id:=by
 rw[Ma]at h
 have:∀m:List eG,a∈m.takeWhile (wM id)->a.i<id:=by
  intro m;induction m with
  |nil=>intro h;cases h
  |cons b m d=>
   intro h;rw[jB]at h;split at h
   ·rename_i c;rcases cq.1 h with rfl | h
    ·simpa[wM]using c
    ·exact d h
   ·cases h
 exact this l h
theorem xx{l:List eG}{id:Int}(c:l.Pairwise λa b=>a.i<b.i){a:eG}(h:a∈l.drop (gv l id)):id<=a.i:=by
 rw[IV]at h
 have:∀m:List eG,(m.Pairwise λa b=>a.i<b.i)->a∈m.dropWhile (wM id)->id<=a.i:=by
  intro m;induction m with
  |nil=>intro _ h;cases h
  |cons b m g=>
   intro c h;rw[sG]at h;split at h
   ·exact g (eT.1 c).2 h
   ·rename_i e;have d:id<=b.i:=by simpa[wM]using e
    rcases cq.1 h with rfl | h
    ·exact d
    ·have:=(eT.1 c).1 a h;omega
 exact this l c h
theorem Ph{l:List eG}(f:l.Pairwise λa b=>a.i<b.i){a b:Nat}{x y:eG}(c:a<b)(g:l[a]? = some x)(h:l[b]? = some y):x.i<y.i:=by
 obtain⟨d,rfl⟩:=bq.1 g;obtain⟨e,rfl⟩:=bq.1 h;exact List.pairwise_iff_getElem.1 f a b d e c
theorem vn{l:List eG}{id:Int}{k:Nat}(h:Found l id k)(w:l.Pairwise λa b=>a.i<b.i)(C:∀a∈l,1<=a.i/\a.i<=1073741824)(E:1<=id)(z:id<=1073741824):k=gv l id/\tL l id k=cH l id:=by
 have n:∀a∈l,kY id a=a.i-id:=λa d=>by
  have:=C a d;exact MO (by omega) z (by omega) this.2
 have u:∀(a b:Nat) (x y:eG),a<b->l[a]? = some x->l[b]? = some y->kY id y<0->kY id x<0:=λa b x y q c o g=>by
  have:=Ph w q c o;rw[n y (bS o)]at g;rw[n x (bS c)];omega
 have r:∀(a:Nat) (x:eG),a<k->l[a]? = some x->x.i<id:=λa x d c=>by
  have:=h.low u a x d c;rw[n x (bS c)]at this;omega
 have t:∀(a:Nat) (x:eG),k<=a->l[a]? = some x->id<=x.i:=λa x d c=>by
  have:=h.high u a x d c;rw[n x (bS c)]at this;omega
 refine⟨(zE l k h.le (λa x d c=>aK (r a x d c)) (λx c=>aR (by have:=t k x (au _) c;omega))).symm,?_⟩;unfold tL cH;cases j:l[k]? with
 |none=>
  symm
  rw[Ei];intro x c;obtain⟨a,d⟩:=iT c;have B:l.length<=k:=List.getElem?_eq_none_iff.1 j;have:=r a x (by have:=(bq.1 d).1;omega) d;simp only[bK];omega
 |some y=>
  have o:=bS j;show decide (kY id y=0)=_
  rw[n y o];by_cases e:y.i=id
  ·rw[aK (by omega)]
   symm
   rw[z8];exact⟨y,o,by simpa using e⟩
  ·rw[aR (by omega)]
   symm
   rw[Ei];intro x c;obtain⟨a,d⟩:=iT c;simp only[bK];intro ex;have D:=t k y (au _) j;rcases uI a k with g | rfl | hgt
   ·have:=r a x g d;omega
   ·rw[d]at j;cases j;exact e ex
   ·have:=Ph w hgt j d;omega
theorem KJ{l:List eG}{id:Int}(j:l.Pairwise λa b=>a.i<b.i)(h:cH l id=true):gv l id<l.length:=by
 unfold cH at h;rw[z8]at h;obtain⟨x,g,ex⟩:=h;have e:x.i=id:=by simpa using ex
 have d:x∈l.drop (gv l id):=by
  have c:=g;rw[<-rA (gv l id) l]at c;rcases dP.1 c with h | h
  ·have:=BD h;omega
  ·exact h
 rcases b9 (gv l id) l.length with h | h
 ·exact h
 ·rw[ja h]at d;cases d
theorem y5(l:List eG)(id:Int):gv l id<=l.length:=(uF _).length_le
theorem Bu{l:List eG}{a b:eG}(h:b∈r5 l a):b=a\/b∈l:=by
 unfold r5 at h;rcases dP.1 h with h | h
 ·exact .inr (nc h)
 ·rcases cq.1 h with h | h
  ·exact .inl h
  ·exact .inr (zK h)
theorem IM(l:List eG)(id:Int):(yM l id).Sublist l:=by
 have h:=rA (gv l id) l
 conv=>rhs;rw[<-h]
 exact List.Sublist.append (List.Sublist.refl _) (by rw[<-lY];exact Ms 1 _)
theorem E4{q:gJ}{e:bM}(h:H8 q)(ha:cg q e=0):H8 (ed q e):=by
 have c:bR e=true:=by
  unfold cg at ha;by_cases c:bR e=true
  ·exact c
  ·rw[ae c]at ha;cases ha
 obtain⟨v0,v1,k0,F,x,C,D,E⟩:=eN c;unfold ed;by_cases d:e.k=1
 ·rw[af d]
  have t:e.i∉q.dV:=by
   unfold cg at ha;rw[af c]at ha;intro r;rw[af ⟨d,r⟩]at ha;cases ha
  obtain⟨_,z,B,_⟩:=x d;refine⟨?_,λa ha => ?_,λa ha => ?_,?_⟩
  ·show(r5 q.l (tM e)).Pairwise _
   unfold r5;refine Fz.2 ⟨h.up.sublist (List.take_sublist _ _),eT.2 ⟨λb hb => ?_,h.up.sublist (Ms _ _)⟩,λa ha b hb => ?_⟩
   ·have n:=xx h.up hb;have o:=h.ev b (zK hb);have:b.i≠e.i:=λy=>t (by rw[<-y];exact o)
    show e.i<b.i
    have:e.i<=b.i:=n;omega
   ·have j:=BD ha;rcases cq.1 hb with rfl | hb
    ·exact j
    ·have:=xx h.up hb;omega
  ·rcases Bu ha with rfl | ha
   ·exact⟨z,B⟩
   ·exact h.OQ a ha
  ·rcases Bu ha with rfl | ha
   ·exact zJ _ (by simp[tM])
   ·exact zH _ (h.ev a ha)
  ·have:=h.len;simp only[r5,aI,bb,bB,fK,dO];have:=y5 q.l (tM e).i;omega
 ·rw[ae d];by_cases u:e.k=2
  ·rw[af u];have g:=IM q.l e.i;exact⟨h.up.sublist g,λa ha=>h.OQ a (g.subset ha),λa ha=>h.ev a (g.subset ha),bl g.length_le h.len⟩
  ·rw[ae u];by_cases w:e.k=3
   ·rw[af w];exact⟨h.up,h.OQ,h.ev,h.len⟩
   ·rw[ae w];exact⟨h.up,h.OQ,h.ev,h.len⟩
theorem xO{q:gJ}{e:bM}:(ed q e).dV.length<=q.dV.length+1:=by
 unfold ed;split
 ·simp
 ·split
  ·simp
  ·split<;>simp
def kg(l:List bM)(n:Nat):Nat:=(bj (l.take n)).length
def pf(l:List bM):List Int:=(List.range l.length).map λj=>((kg l (j+1):Nat):Int)
@[simp] theorem Qp (l:List bM):(pf l).length=l.length:=by simp[pf]
theorem BQ(l:List bM):kg l 0=0:=by simp[kg,bj]
theorem pV(l:List bM):kg l l.length=(bj l).length:=by simp[kg]
theorem Gx{l:List bM}{j:Nat}(h:j<l.length):(pf l)[j]? = some ((kg l (j+1):Nat):Int):=by
 simp[pf,h]
theorem wS(l m:List bM){n:Nat}(h:n<=l.length):kg (l++m) n=kg l n:=by
 unfold kg;rw[lL h]
theorem CZ(l:List bM)(e:bM):pf (l++[e])=pf l++[(((bj l).length+(e5 (bF e)).length:Nat):Int)]:=by
 unfold pf;rw[aI,iV,FD,lK]
 congr 1
 ·apply oZ;intro j a;rw[wS _ _ (by have:=jA.1 a;omega)]
 ·simp only[eE,jz];rw[show l.length+1=(l++[e]).length by simp,pV,mA,aI]
theorem lT:∀(a b:List bM) (q:gJ),bT q (a++b)=if(bT q a).1=0 then bT (bT q a).2 b else bT q a
 | [],b,q=>by simp[bT]
 |e::a,b,q=>by
  have c:bT q (e::a)=if cg q e=0 then bT (ed q e) a else(cg q e,q):=rfl
  have d:bT q (e::a++b)=if cg q e=0 then bT (ed q e) (a++b)else(cg q e,q):=rfl
  by_cases h:cg q e=0
  ·rw[af h]at c d;rw[c,d];exact lT a b _
  ·rw[ae h]at c d;rw[c,d,ae h]
theorem sV{l:List bM}{q q':gJ}{e:bM}(h:bT q l=(0,q'))(a:cg q' e=0):bT q (l++[e])=(0,ed q' e):=by
 rw[lT,h];simp[bT,a]
theorem AH{q:gJ}{e:bM}(h:cg q e=0):bR e=true:=by
 unfold cg at h;by_cases a:bR e=true
 ·exact a
 ·rw[ae a]at h;cases h
theorem oM:∀{l:List bM} {q q':gJ},bT q l=(0,q')->H8 q->l.all bR=true/\H8 q'/\q'.dV.length<=q.dV.length+l.length
 | [],q,q',h,g=>by
   cases h;exact⟨rfl,g,by simp⟩
 |e::l,q,q',h,g=>by
  simp only[bT]at h;by_cases c:cg q e=0
  ·rw[af c]at h;obtain⟨d,j,k⟩:=oM h (E4 g c);refine⟨by rw[nq,AH c,d];rfl,j,?_⟩;have:=xO (q:=q) (e:=e);simp only[bB];omega
  ·rw[ae c]at h
   injection h with d j
   exact absurd d c
def qM(a:List Int):List (S×V):=a.map λi=>(S.int .i64 i,V.s (.bool true))
def cF(x:S)(mp:Nat)(q:gJ):List S:=[x,.map mp,.int .i64 q.cX.a0,.int .i64 q.cX.a1,.int .i64 q.cX.a2,.int .i64 q.cX.a3,.int .i64 q.cX.c,.int .i64 q.cX.n,.int .i64 q.v,.int .i64 q.w]
theorem rV(i:Int):∀(l:List Int) (k:Nat),(i∈l->∃j,ig (.int .i64 i) (qM l) k=some (some (j,V.s (.bool true))))/\(i∉l->ig (.int .i64 i) (qM l) k=some none)
 | [],k=>⟨λh=>by simp at h,λ_=>rfl⟩
 |a::l,k=>by
  obtain⟨c,d⟩:=rV i l (k+1);by_cases e:i=a
  ·subst e;refine⟨λ_=>⟨k,by simp[qM,ig,lD]⟩,λh=>(h (by simp)).elim⟩
  ·have n:ig (.int .i64 i) (qM (a::l)) k=ig (.int .i64 i) (qM l) (k+1):=by simp[qM,ig,lD,e]
   rw[n];exact⟨λh=>c (by rcases cq.1 h with h | h;exact(e h).elim;exact h),λh=>d λg=>h (dC _ g)⟩
theorem GZ{g:Mem}{mp:Nat}{a:List Int}(h:g mp=some (.map (qM a)))(i:Int):Go.Abs.F.look .i false (.s (.bool false)) (Z (.map mp)) (J i) g=some (B (decide (i∈a))):=by
 obtain⟨b,c⟩:=rV i a 0;have e:isKey .i (J i)=true:=rfl;unfold Go.Abs.F.look;rw[af e];by_cases hi:i∈a
 ·obtain⟨j,d⟩:=b hi;simp only[jt,h,d,aK hi];rfl
 ·simp only[jt,h,c hi,aR hi];rfl
section
variable {K:Nat->Prop}
variable {s0 s t:St}{b mp:Nat}{q:gJ}{x y:S}{e:bM}
theorem G4{a:List Int}(h:s.get mp=some (.map (qM a))){i:Int}(hi:i∉a):G3 .i (Z (.map mp)) (J i) (B true) s=some (tt,s.set mp (.map (qM (a++[i])))):=by
 obtain⟨_,b⟩:=rV i a 0;have c:isKey .i (J i)=true:=rfl;unfold G3;rw[af c];simp only[kG,h,b hi];simp[qM]
def Qj(K:Nat->Prop)(s t:St):Prop:=t.wf/\s.size<=t.size/\∀c,c<s.size->K c->t.get c=s.get c
theorem Qj.wf{K:Nat->Prop}{s t:St}(h:Qj K s t):t.wf:=h.1
theorem Qj.trans{K:Nat->Prop}{a b c:St}(h:Qj K a b)(k:Gr b c):Qj K a c:=⟨k.1,bl h.2.1 k.2.1,λx d e=>by rw[k.2.2 x (bh d h.2.1),h.2.2 x d e]⟩
structure HG(K:Nat->Prop)(s0 s:St)(b:Nat)(q:gJ)(x:S)(mp:Nat):Prop where
 gr:Qj K s0 s
 hb:b<s0.size->¬K b
 hm:mp<s0.size->¬K mp
 st:s.get b=some (.K true (cF x mp q))
 Dm:s.get mp=some (.map (qM q.dV))
 ins:Ao s x q.l
 ow:∀c,own x=some c->(c<s0.size->¬K c)/\c≠b/\c≠mp
abbrev HF(s0 s:St)(b:Nat)(q:gJ)(x:S)(mp:Nat):Prop:=HG (λ_=>True) s0 s b q x mp
theorem HG.Sd(h:HF s0 s b q x mp):Gr s0 s:=⟨h.gr.1,h.gr.2.1,λc a=>h.gr.2.2 c a trivial⟩
theorem HG.bm(h:HG K s0 s b q x mp):b≠mp:=λe=>by
 have a:=h.st;rw[e,h.Dm]at a;cases a
theorem HG.j6(h:HG K s0 s b q x mp)(g:Gr s t):HG K s0 t b q x mp:=
 ⟨h.gr.trans g,h.hb,h.hm,g.get h.st h.gr.wf,g.get h.Dm h.gr.wf,h.ins.keep λc a=>g.2.2 c (h.ins.lt h.gr.wf a),h.ow⟩
theorem HG.re(h:HG K s0 s b q x mp):HG (λc=>c≠b/\c≠mp/\own x≠some c) s s b q x mp:=
 ⟨⟨h.gr.1,au _,λ_ _ _=>rfl⟩,λ_ k=>k.1 rfl,λ_ k=>k.2.1 rfl,h.st,h.Dm,h.ins,λc a=>⟨λ_ k=>k.2.2 a,(h.ow c a).2⟩⟩
theorem Cn(d:Nat)(h:HG K s0 s b q x mp)(c:q.l.length<=8000)(id:Int):∃k t,R (d+3) 134 [Z (.ptr b 0),J id] s=some (.c6 [.s (.int .i64 ((k:Nat):Int)),.s (.bool (tL q.l id k))],t)/\Gr s t/\Found q.l id k:=by
 obtain⟨k,t,a,g,f⟩:=ML d h.gr.wf h.ins c id;refine⟨k,t,?_,g,f⟩;rw[Jp];unfold f134;have e:aa (Z (.ptr b 0)) s.get=some (Z x):=ag h.st rfl;generalize R (d+2)=r at*;simp[e,a,ai,aD,a8]
theorem wu(d:Nat)(h:HG K s0 s b q x mp)(Y:H8 q)(hl:q.l.length<=8000)(e:bM):∃t,R (d+9) 110 [Z (.ptr b 0),AE e] s=some (J (cg q e),t)/\Gr s t:=by
 rw[Jd];unfold f110;obtain⟨n,X⟩:=aZ (s.size);obtain⟨s1,F⟩:=aZ (s.push (.K true (cE e)));have c:aE s (b6 (AE e))=some (Z (.ptr n 0),s1):=by rw[F,X];rfl
 have N:Gr s s1:=by rw[F];exact Gr.push h.gr.wf _
 have U:s1.get n=some (.K true (cE e)):=by rw[F,X];exact St.ec
 have y:aa (Z (.ptr n 2)) s1.get=some (J e.i):=ag U rfl;obtain⟨k,s2,j,H,hF⟩:=Cn (d+5) (h.j6 N) hl e.i;have V:s2.get n=some (.K true (cE e)):=H.get U N.wf;have z:=eA (g:=s2.get) V;obtain⟨G,o,Q⟩:=vB d H.wf e;have O:G.get n=some (.K true (cE e)):=Q.get V H.wf;have S:=((h.j6 N).j6 H).j6 Q;have C:aa (Z (.ptr n 0)) G.get=some (J e.k):=ag O rfl;have v3:aa (Z (.ptr n 1)) G.get=some (J e.v):=ag O rfl;have B:aa (Z (.ptr n 2)) G.get=some (J e.i):=ag O rfl;have D:aa (Z (.ptr b 1)) G.get=some (Z (.map mp)):=ag S.st rfl;have E:aa (Z (.ptr b 9)) G.get=some (J q.w):=ag S.st rfl;have I:=GZ S.Dm e.i;refine⟨G,?_,(N.trans H).trans Q⟩;simp only[aH,Nat.reduceAdd]at j;unfold cg;cases T:bR e with
 |false=>
  rw[T]at o;generalize R (d+8)=r at*;simp[c,y,j,ai,z,o]
 |true=>
  rw[T]at o;obtain⟨v0,v1,k0,k1,q1,q2,q3,q4⟩:=eN T;rcases (by omega:e.k=1\/e.k=2\/e.k=3\/e.k=4)with hk | hk | hk | hk
  ·by_cases hi:e.i∈q.dV
   ·rw[aK hi]at I;generalize R (d+8)=r at*;simp[c,y,j,ai,z,o,C,hk,D,B,I,hi]
   ·rw[aR hi]at I;generalize R (d+8)=r at*;by_cases u:e.v<q.w
    ·simp[c,y,j,ai,z,o,C,hk,D,B,I,hi,v3,E,u]
    ·simp[c,y,j,ai,z,o,C,hk,D,B,I,hi,v3,E,u]
  ·obtain⟨Sj,Sk,_⟩:=q2 hk;obtain⟨_,hh⟩:=vn hF Y.up Y.OQ Sj Sk;rw[hh]at j;generalize R (d+8)=r at*;cases ht:cH q.l e.i with
   |false=>
    rw[ht]at j;simp[c,y,j,ai,z,o,C,hk,D,B,v3,E]
   |true=>
    rw[ht]at j;by_cases u:e.v<q.w
    ·simp[c,y,j,ai,z,o,C,hk,D,B,v3,E,u]
    ·simp[c,y,j,ai,z,o,C,hk,D,B,v3,E,u]
  ·generalize R (d+8)=r at*;by_cases u:e.v<q.w
   ·simp[c,y,j,ai,z,o,C,hk,D,B,v3,E,u]
   ·simp[c,y,j,ai,z,o,C,hk,D,B,v3,E,u]
  ·generalize R (d+8)=r at*;by_cases u:e.v<q.w
   ·simp[c,y,j,ai,z,o,C,hk,D,B,v3,E,u]
   ·simp[c,y,j,ai,z,o,C,hk,D,B,v3,E,u]
end
section
variable {K:Nat->Prop}
variable {s0 s t:St}{b mp:Nat}{q:gJ}{x y:S}{e:bM}
theorem Fk{σ:St}{q':gJ}{o:Nat}{x' z:S}(h:σ.get b=some (.K true (cF x mp q)))(a:o<10)(c:aQ (cF x mp q) o [z]=cF x' mp q'):aj 1 (Z (.ptr b o)) (Z z) σ=some (tt,σ.set b (.K true (cF x' mp q'))):=by
 rw[aJ h (by simpa[cF]using a),c]
theorem G8(d:Nat)(h:HG K s0 s b q x mp)(hq:H8 q)(hl:q.dV.length<=8000)(e:bM):∃t y,R (d+10) 96 [Z (.ptr b 0),AE e] s=some (J (cg q e),t)/\HG K s0 t b (if cg q e=0 then ed q e else q) y mp:=by
 rw[EO];unfold f96;have Su:q.l.length<=8000:=bl hq.len hl;obtain⟨n,hn⟩:=aZ (s.size);obtain⟨s1,SA⟩:=aZ (s.push (.K true (cE e)));have Sn:aE s (b6 (AE e))=some (Z (.ptr n 0),s1):=by rw[SA,hn];rfl
 have g1:Gr s s1:=by rw[SA];exact Gr.push h.gr.wf _
 have b1:s1.get n=some (.K true (cE e)):=by rw[SA,hn];exact St.ec
 have SJ:=eA (g:=s1.get) b1;have h1:=h.j6 g1;obtain⟨s2,e2,g2⟩:=wu d h1 hq Su e;have h2:=h1.j6 g2;have b2:s2.get n=some (.K true (cE e)):=g2.get b1 g1.wf;by_cases O:cg q e=0
 ·rw[af O];rw[O]at e2 ⊢;have i2:aa (Z (.ptr n 2)) s2.get=some (J e.i):=ag b2 rfl;obtain⟨k,s3,SD,X,hF⟩:=Cn (d+6) h2 Su e.i;have C:=h2.j6 X;have b3:s3.get n=some (.K true (cE e)):=X.get b2 g2.wf;have SG:=X.wf.lt b3;have k3:aa (Z (.ptr n 0)) s3.get=some (J e.k):=ag b3 rfl
  have Sz:bR e=true:=by
   unfold cg at O;by_cases Sz:bR e=true
   ·exact Sz
   ·rw[ae Sz]at O;cases O
  obtain⟨v0,v1,k0,k1,q1,q2,q3,q4⟩:=eN Sz;have S4:=h.gr.wf.lt h.st;have S5:=h.gr.wf.lt h.Dm;have Ss:b≠n:=by omega
  have SP:mp≠n:=by omega
  have SH:∀c,own x=some c->c<n:=λc B=>by rw[hn];exact h.ins.lt h.gr.wf B
  have Sk:=h.bm;simp only[aH,Nat.reduceAdd]at SD
  have G:∀(σ:St) (y:S) (q':gJ),HG K s0 σ b q' y mp->σ.get n=some (.K true (cE e))->∃SZ,aj 1 (Z (.ptr b 9)) (J e.v) σ=some (tt,SZ)/\aa (Z (.ptr n 1)) σ.get=some (J e.v)/\HG K s0 SZ b ⟨q'.l,q'.dV,q'.cX,q'.v,e.v⟩ y mp:=λσ y q' H S3=>by
   refine⟨_,Fk (q':=⟨q'.l,q'.dV,q'.cX,q'.v,e.v⟩) (x':=y) H.st (by omega) rfl,ag S3 rfl,?_⟩;have SE:=H.gr.wf.lt H.st
   exact⟨⟨St.wf_set H.gr.wf SE _,by simpa using H.gr.2.1,λc B N=>by rw[St.bO (λe'=>by subst e';exact H.hb B N)];exact H.gr.2.2 c B N⟩,H.hb,H.hm,St.dh,by rw[St.bO (bu H.bm)];exact H.Dm,
    H.ins.keep λc B=>St.bO (H.ow c B).2.1,H.ow⟩
  unfold ed;rcases (by omega:e.k=1\/e.k=2\/e.k=3\/e.k=4)with hk | hk | hk | hk
  ·-- a Sp comes
   rw[af hk];obtain⟨S6,SS,SU,_⟩:=q1 hk
   have SQ:e.i∉q.dV:=by
    unfold cg at O;rw[af Sz]at O;intro SM;rw[af ⟨hk,SM⟩]at O;cases O
   obtain⟨Sy,_⟩:=vn hF hq.up hq.OQ SS SU;subst Sy;have m3:aa (Z (.ptr b 1)) s3.get=some (Z (.map mp)):=ag C.st rfl;have i3:aa (Z (.ptr n 2)) s3.get=some (J e.i):=ag b3 rfl;have ms:=G4 C.Dm SQ;obtain⟨D,Sl⟩:=aZ (s3.set mp (.map (qM (q.dV++[e.i]))));rw[<-Sl]at ms;have SF:=X.wf.lt C.Dm;have o4:∀c,c≠mp->D.get c=s3.get c:=λc B=>by rw[Sl];exact St.bO B
   have SC:D.wf:=by rw[Sl];exact St.wf_set X.wf SF _
   have z4:D.size=s3.size:=by rw[Sl];simp
   have b4:D.get n=some (.K true (cE e)):=by rw[o4 n (bu SP)];exact b3
   have SK:D.get b=some (.K true (cF x mp q)):=by rw[o4 b Sk];exact C.st
   have x4:aa (Z (.ptr b 0)) D.get=some (Z x):=ag SK rfl;have f2:aa (Z (.ptr n 2)) D.get=some (J e.i):=ag b4 rfl;have f3:aa (Z (.ptr n 3)) D.get=some (J e.t):=ag b4 rfl;have f4:aa (Z (.ptr n 4)) D.get=some (J e.f):=ag b4 rfl;have f5:aa (Z (.ptr n 5)) D.get=some (J e.o):=ag b4 rfl;have f6:aa (Z (.ptr n 6)) D.get=some (I .u32 e.u):=ag b4 rfl;have S0:aO (aA [iz,iz,iz,iz,.int .u32 0] [(0,1,J e.i),(1,1,J e.t),(2,1,J e.f),(3,1,J e.o),(4,1,I .u32 e.u)])=some (AI (tM e)):=rfl;obtain⟨s5,Sv⟩:=aZ (D.push (.K true (cI (tM e))));have SV:aE D (aN 1 (aA [iz,iz,iz,iz,.int .u32 0] [(0,5,AI (tM e))]))=some (Z (.sl D.size 0 1 (.known 1)),s5):=by rw[Sv];rfl
   have g5:Gr D s5:=by rw[Sv];exact Gr.push SC _
   have j5:s5.get D.size=some (.K true (cI (tM e))):=by rw[Sv];exact St.ec
   have Sm:Ao D x q.l:=C.ins.keep λc B=>o4 c (h.ow c B).2.2
   have SI:Ao s5 x q.l:=Sm.keep λc B=>g5.2.2 c (Sm.lt SC B)
   obtain⟨y,s6,e6,F⟩:=N2 (d+8) g5.wf SI Su (y5 q.l e.i) j5 (λc B=>by have:=Sm.lt SC B;omega);have z5:D.size<s5.size:=by rw[Sv];simp
   have xb:own x≠some b:=λB=>(h.ow b B).2.1 rfl
   have xm:own x≠some mp:=λB=>(h.ow mp B).2.2 rfl
   have xn:own x≠some n:=λB=>by have:=SH n B;omega
   have Sr:s6.get b=some (.K true (cF x mp q)):=by rw[F.old b (by omega) xb,g5.2.2 b (by omega)];exact SK
   have SB:s6.get mp=some (.map (qM (q.dV++[e.i]))):=by rw[F.old mp (by omega) xm,g5.2.2 mp (by omega),Sl];exact St.dh
   have SL:s6.get n=some (.K true (cE e)):=by rw[F.old n (by omega) xn,g5.2.2 n (by omega)];exact b4
   obtain⟨Q,E⟩:=aZ (⟨r5 q.l (tM e),q.dV++[e.i],q.cX,q.v,q.w⟩:gJ);have sS:=Fk (q':=Q) (x':=y) (z:=y) Sr (show 0<10 by omega) (by rw[E];rfl);obtain⟨U,j⟩:=aZ (s6.set b (.K true (cF y mp Q)));rw[<-j]at sS
   have yo:∀c,own y=some c->(c<s0.size->¬K c)/\c≠b/\c≠mp:=λc B=>by
    rcases F.new c B with hx | hx
    ·exact h.ow c hx
    ·have:=h.gr.2.1;exact⟨λh'=>absurd h' (by omega),by omega,by omega⟩
   have H7:HG K s0 U b Q y mp:=by
    have Sw:=F.wf.lt Sr;refine⟨⟨by rw[j];exact St.wf_set F.wf Sw _,?_,λc B N => ?_⟩,h.hb,h.hm,by rw[j];exact St.dh,?_,?_,yo⟩
    ·rw[j];have:=h.gr.2.1;have:=g1.2.1;have:=g2.2.1;have:=X.2.1;have:=F.le;simp only[St.size_set];omega
    ·have S1:=h.gr.2.1;rw[j,St.bO (λe'=>by subst e';exact h.hb B N),F.old c (by omega) (λSx=>(h.ow c Sx).1 B N),g5.2.2 c (by omega),o4 c (λe'=>by subst e';exact h.hm B N)];exact C.gr.2.2 c B N
    ·rw[j,St.bO (bu Sk),SB,E]
    ·rw[E];exact F.ins.keep λc B=>by rw[j];exact St.bO (yo c B).2.1
   have b7:U.get n=some (.K true (cE e)):=by rw[j,St.bO (bu Ss)];exact SL
   obtain⟨s8,V,T,Y⟩:=G U y Q H7 b7;rw[E]at Y;refine⟨s8,y,?_,Y⟩;clear G;simp only[aH,Nat.reduceAdd]at e6;generalize R (d+9)=r,((gv q.l e.i:Nat):Int)=K,tL q.l e.i (gv q.l e.i)=hit at*;simp[Sn,SJ,e2,i2,SD,ai,k3,hk,m3,i3,ms,x4,f2,f3,f4,f5,f6,S0,SV,e6,sS,T,V,bD]
  ·-- a Sp goes
   rw[ae (by omega),af hk];obtain⟨SS,SU,_⟩:=q2 hk;obtain⟨Sy,SW⟩:=vn hF hq.up hq.OQ SS SU
   have SR:cH q.l e.i=true:=by
    unfold cg at O;rw[af Sz,ae (by omega)]at O;cases ht:cH q.l e.i with
    |true=>rfl
    |false=>rw[af ⟨hk,ht⟩]at O;cases O
   subst Sy;have SN:=KJ hq.up SR;have x3:aa (Z (.ptr b 0)) s3.get=some (Z x):=ag C.st rfl;have w1:IntKind.i64.wrap (((gv q.l e.i:Nat):Int)+1)=((gv q.l e.i+1:Nat):Int):=by rw[aw _ (by omega) (by omega)];omega
   obtain⟨y,s6,e6,F⟩:=MS (d+8) X.wf C.ins Su SN;have xb:own x≠some b:=λB=>(h.ow b B).2.1 rfl
   have xm:own x≠some mp:=λB=>(h.ow mp B).2.2 rfl
   have xn:own x≠some n:=λB=>by have:=SH n B;omega
   have Sj:=X.wf.lt C.st;have SO:=X.wf.lt C.Dm;have Sr:s6.get b=some (.K true (cF x mp q)):=by rw[F.old b Sj xb];exact C.st
   have SB:s6.get mp=some (.map (qM q.dV)):=by rw[F.old mp SO xm];exact C.Dm
   have SL:s6.get n=some (.K true (cE e)):=by rw[F.old n SG xn];exact b3
   obtain⟨Q,E⟩:=aZ (⟨yM q.l e.i,q.dV,q.cX,q.v,q.w⟩:gJ);have sS:=Fk (q':=Q) (x':=y) (z:=y) Sr (show 0<10 by omega) (by rw[E];rfl);obtain⟨U,j⟩:=aZ (s6.set b (.K true (cF y mp Q)));rw[<-j]at sS
   have yo:∀c,own y=some c->(c<s0.size->¬K c)/\c≠b/\c≠mp:=λc B=>by
    rcases F.new c B with hx | hx
    ·exact h.ow c hx
    ·have:=C.gr.2.1;exact⟨λh'=>absurd h' (by omega),by omega,by omega⟩
   have H7:HG K s0 U b Q y mp:=by
    have Sw:=F.wf.lt Sr;refine⟨⟨by rw[j];exact St.wf_set F.wf Sw _,?_,λc B N => ?_⟩,h.hb,h.hm,by rw[j];exact St.dh,?_,?_,yo⟩
    ·rw[j];have:=C.gr.2.1;have:=F.le;simp only[St.size_set];omega
    ·have S2:=C.gr.2.1;rw[j,St.bO (λe'=>by subst e';exact h.hb B N),F.old c (by omega) (λSx=>(h.ow c Sx).1 B N)];exact C.gr.2.2 c B N
    ·rw[j,St.bO (bu Sk),SB,E]
    ·rw[E];exact F.ins.keep λc B=>by rw[j];exact St.bO (yo c B).2.1
   have b7:U.get n=some (.K true (cE e)):=by rw[j,St.bO (bu Ss)];exact SL
   obtain⟨s8,V,T,Y⟩:=G U y Q H7 b7;rw[E]at Y;refine⟨s8,y,?_,Y⟩;clear G;simp only[aH,Nat.reduceAdd]at e6;generalize R (d+9)=r,((gv q.l e.i+1:Nat):Int)=K1,((gv q.l e.i:Nat):Int)=K,tL q.l e.i (gv q.l e.i)=hit at*;simp[Sn,SJ,e2,i2,SD,ai,k3,hk,x3,w1,e6,sS,T,V,bD]
  ·-- a SY
   rw[ae (by omega),ae (by omega),af hk];have v3:aa (Z (.ptr n 1)) s3.get=some (J e.v):=ag b3 rfl;obtain⟨Q,E⟩:=aZ (⟨q.l,q.dV,q.cX,e.v,q.w⟩:gJ);have sS:=Fk (q':=Q) (x':=x) (z := .int .i64 e.v) C.st (show 8<10 by omega) (by rw[E];rfl);obtain⟨U,j⟩:=aZ (s3.set b (.K true (cF x mp Q)));rw[<-j]at sS
   have H7:HG K s0 U b Q x mp:=by
    have Sj:=X.wf.lt C.st;refine⟨⟨by rw[j];exact St.wf_set X.wf Sj _,by rw[j];simpa using C.gr.2.1,λc B N=>by rw[j,St.bO (λe'=>by subst e';exact h.hb B N)];exact C.gr.2.2 c B N⟩,h.hb,h.hm,by rw[j];exact St.dh,?_,?_,h.ow⟩
    ·rw[j,St.bO (bu Sk),C.Dm,E]
    ·rw[E];exact C.ins.keep λc B=>by rw[j];exact St.bO (h.ow c B).2.1
   have b7:U.get n=some (.K true (cE e)):=by rw[j,St.bO (bu Ss)];exact b3
   obtain⟨s8,V,T,Y⟩:=G U x Q H7 b7;rw[E]at Y;refine⟨s8,x,?_,Y⟩;clear G;generalize R (d+9)=r,tL q.l e.i k=hit at*;simp[Sn,SJ,e2,i2,SD,ai,k3,hk,v3,sS,T,V,bD]
  ·-- a SX
   rw[ae (by omega),ae (by omega),ae (by omega)];have x3:aa (Z (.ptr n 7)) s3.get=some (Z (.str e.x)):=ag b3 rfl;have S7:=j9 Sz;obtain⟨D,e4,g4⟩:=xT (d+2) X.wf (l:=e.x) (by omega);have h4:=C.j6 g4;have b4:D.get n=some (.K true (cE e)):=g4.get b3 X.wf;obtain⟨Q,E⟩:=aZ (⟨q.l,q.dV,(e3 e.x).1,q.v,q.w⟩:gJ);obtain⟨p,hp⟩:=aZ ((e3 e.x).1);rw[<-hp]at e4 E
   have sS:aj 6 (Z (.ptr b 2)) (AP p) D=some (tt,D.set b (.K true (cF x mp Q))):=by
    simp only[aj,h4.st];rw[af ⟨rfl,by simp[cF]⟩,E];rfl
   obtain⟨U,j⟩:=aZ (D.set b (.K true (cF x mp Q)));rw[<-j]at sS
   have H7:HG K s0 U b Q x mp:=by
    have Sj:=g4.wf.lt h4.st;refine⟨⟨by rw[j];exact St.wf_set g4.wf Sj _,by rw[j];simpa using h4.gr.2.1,λc B N=>by rw[j,St.bO (λe'=>by subst e';exact h.hb B N)];exact h4.gr.2.2 c B N⟩,h.hb,h.hm,by rw[j];exact St.dh,?_,?_,h.ow⟩
    ·rw[j,St.bO (bu Sk),h4.Dm,E]
    ·rw[E];exact h4.ins.keep λc B=>by rw[j];exact St.bO (h.ow c B).2.1
   have b7:U.get n=some (.K true (cE e)):=by rw[j,St.bO (bu Ss)];exact b4
   obtain⟨s8,V,T,Y⟩:=G U x Q H7 b7;rw[E,hp]at Y;refine⟨s8,x,?_,Y⟩;clear G;simp only[aH,Nat.reduceAdd]at e4;generalize R (d+9)=r,tL q.l e.i k=hit at*;simp[Sn,SJ,e2,i2,SD,ai,k3,hk,x3,e4,sS,T,V,bD]
 ·rw[ae O];refine⟨s2,x,?_,h2⟩;generalize R (d+9)=r at*;simp[Sn,SJ,e2,O]
end
section
variable {s0 s t:St}{b mp:Nat}{q:gJ}{x y a:S}{l:List eG}
theorem Gi(d:Nat)(u:s.wf):∃b mp t,R (d+2) 41 [] s=some (Z (.ptr b 0),t)/\HF s t b j4 .av mp:=by
 rw[Ni];unfold f41;obtain⟨s1,e⟩:=aZ (s.push (.map []));have l:aE s Oh=some (Z (.map s.size),s1):=by rw[e];rfl
 have g:Gr s s1:=by rw[e];exact Gr.push u _
 have q:s1.get s.size=some (.map []):=by rw[e];exact St.ec
 obtain⟨i,p,a⟩:=sP d g.wf;have n:=a.get q g.wf;have w:=a.wf.lt n;obtain⟨s3,f⟩:=aZ (i.push (.K true (cF .av s.size j4)));have o:aO (aA [.av,.pb,iz,iz,iz,iz,iz,iz,iz,iz] [(1,1,Z (.map s.size)),(2,6,AP gM)])=some (.v (.agg (cF .av s.size j4))):=rfl;have m:aE i (b6 (.v (.agg (cF .av s.size j4))))=some (Z (.ptr i.size 0),s3):=by rw[f];rfl
 have j:Gr i s3:=by rw[f];exact Gr.push a.wf _
 refine⟨i.size,s.size,s3,?_,⟨((g.trans a).trans j).1,((g.trans a).trans j).2.1,λc k _=>((g.trans a).trans j).2.2 c k⟩,λh=>absurd h (by have:=(g.trans a).2.1;omega),λh=>absurd h (by omega),by rw[f];exact St.ec,j.get n a.wf,.inl ⟨rfl,rfl⟩,λc k=>by cases k⟩;generalize R (d+1)=r at*;simp[l,p,o,m]
theorem Gn(d:Nat)(o:s.wf)(h:Ao s x l)(C:l.length<=8000):∃y t,R (d+1) 97 [Z x] s=some (Z y,t)/\Fr 5 s t y l.length (cells cI l):=by
 rw[NT];unfold f97;have k:=h.rd;have j:∀c,own x=some c->c<s.size:=λc r=>h.lt o r
 have g:=dn (e:=5) eY l;rcases h with ⟨rfl,rfl⟩ | ⟨c,vs,rfl,z,D⟩
 ·refine⟨.av,s,?_,Fr.nil 5 o⟩;have:lu .l (Z .av) (Z .av)=some (B true):=rfl;simp[this]
 ·have q:=Fr.lit 5 o (n:=0) (vs:=[]) rfl;obtain⟨y,t,e,f,_⟩:=q.append (by_:=40) (by omega) (k.gr j q.gr).src g (by omega);have u:aE s (aN 0 (aA [] []))=some (Z (.sl s.size 0 0 (.known 0)),s.push (.K true [])):=rfl;have w:lu .l (Z (.sl c 0 l.length (.grown 5))) (Z .av)=some (B false):=rfl;simp only[a7,dD]at f;refine⟨y,t,?_,f⟩;simp[w,u,e]
theorem xz(d:Nat){K:Nat->Prop}(h:HG K s0 s b q x mp)(a:q.l.length<=8000):∃y t,R (d+2) 48 [Z (.ptr b 0)] s=some (Z y,t)/\Fr 5 s t y q.l.length (cells cI q.l):=by
 obtain⟨y,t,e,f⟩:=Gn d h.gr.wf h.ins a;refine⟨y,t,?_,f⟩;rw[Nl];unfold f48;have c:aa (Z (.ptr b 0)) s.get=some (Z x):=ag h.st rfl;generalize R (d+1)=r at*;simp[c,e]
theorem HM{g:Mem}(h:g b=some (.K true (cF x mp q))):ay 6 (Z (.ptr b 2)) g=some (AP q.cX):=by
 simp only[ay,h];rw[af (by simp[cF])];rfl
def tA(r:Int×gJ)(y:S):T:=if r.1=0 then .c6 [.s y,.agg (cP r.2.cX),.s (.int .i64 r.2.v),.s (iz)]else .c6 [.s .av,.agg (cP bV),.s (iz),.s (.int .i64 r.1)]
end
structure w9 where
 p:Nat
 i:Nat
 m:Nat
 b:Nat
 mp:Nat
 lx:S
 ex:S
 qx:S
structure Qz(ρ:Nat->Nat)(B:w9)(fs:List Fl):Prop where
 p:ρ B.p=1
 b:ρ B.b=2
 mp:ρ B.mp=3
 lx:∀c,own B.lx=some c->ρ c=4
 ex:∀c,own B.ex=some c->ρ c=5
 qx:∀c,own B.qx=some c->ρ c=6
 i:ρ B.i=0
 m:ρ B.m=0
 fb:∀f∈fs,ρ f.fb=0
 fx:∀f∈fs,∀c,own f.x=some c->ρ c=0
structure bU(ρ:Nat->Nat)(s:St)(B:w9)(room:Int)(fs:List Fl)(l:List bM)(q:gJ)(sure:Nat):Prop where
 dk:Dk s B.i B.m room fs
 st:s.get B.p=some (.K true [.ptr B.i 0,B.lx,B.ex,.ptr B.b 0,.int .i64 sure])
 le:Ow 8 s B.lx l.length (cells cE l)
 en:Ow 1 s B.ex l.length ((pf l).map (S.int .i64))
 hf:HG (λc=>c≠B.b/\c≠B.mp/\own B.qx≠some c) s s B.b q B.qx B.mp
 ro:Qz ρ B fs
 fo:bT j4 l=(0,q)
 wf:∀e∈l,nI e
 PK:l.length<=2000
 su:sure<=l.length
section
variable {ρ ρ':Nat->Nat}{s t:St}{B:w9}{room:Int}{fs:List Fl}{l:List bM}{q:gJ}{sure:Nat}{i m:Nat}
theorem Dk.qL(h:Dk s i m room fs)(o:t.wf)(p:s.size<=t.size)(hi:t.get i=s.get i)(n:t.get m=s.get m)(l:∀f∈fs,t.get f.fb=s.get f.fb/\∀c,own f.x=some c->t.get c=s.get c):Dk t i m room fs:=by
 refine⟨o,by rw[hi];exact h.ri,by rw[n];exact h.mp,λk f a => ?_,h.ap,h.nm⟩;obtain⟨b,d,e⟩:=h.fl k f a;obtain⟨g,j⟩:=l f (bS a);exact⟨by rw[g];exact b,d.keep j,e⟩
theorem Dk.Cx(h:Dk s i m room fs):i<s.size/\m<s.size/\∀f∈fs,f.fb<s.size/\∀c,own f.x=some c->c<s.size:=by
 refine⟨h.wf.lt h.ri,h.wf.lt h.mp,λf e => ?_⟩;obtain⟨k,g⟩:=iT e;obtain⟨a,b,_⟩:=h.fl k f g;exact⟨h.wf.lt a,λc d=>b.lt h.wf d⟩
theorem HG.qL{K K':Nat->Prop}{s0:St}{b mp:Nat}{x:S}(h:HG K s0 s b q x mp)(g:t.wf)(d:t.get b=s.get b)(e:t.get mp=s.get mp)(f:∀c,own x=some c->t.get c=s.get c) :
 HG (λc=>c≠b/\c≠mp/\own x≠some c) t t b q x mp:=
 ⟨⟨g,au _,λ_ _ _=>rfl⟩,λ_ k=>k.1 rfl,λ_ k=>k.2.1 rfl,by rw[d];exact h.st,by rw[e];exact h.Dm,h.ins.keep f,λc a=>⟨λ_ k=>k.2.2 a,(h.ow c a).2⟩⟩
theorem bU.nE(h:bU ρ s B room fs l q sure):s.wf:=h.dk.wf
theorem bU.Cx(h:bU ρ s B room fs l q sure):B.p<s.size/\B.b<s.size/\B.mp<s.size/\(∀c,own B.lx=some c->c<s.size)/\(∀c,own B.ex=some c->c<s.size)/\(∀c,own B.qx=some c->c<s.size):=
 ⟨h.nE.lt h.st,h.nE.lt h.hf.st,h.nE.lt h.hf.Dm,λc a=>h.le.lt h.nE a,λc a=>h.en.lt h.nE a,λc a=>h.hf.ins.lt h.nE a⟩
theorem bU.keep(h:bU ρ s B room fs l q sure)(j:t.wf)(w:s.size<=t.size)(v:∀c,c<s.size->ρ c<7->t.get c=s.get c):bU ρ t B room fs l q sure:=by
 obtain⟨x,y,z,A,C,D⟩:=h.Cx;obtain⟨o,u,g⟩:=h.dk.Cx;have r:=h.ro;have k:=λc a (n:Nat) (e:ρ c=n) (E:n<7)=>v c a (by omega)
 exact⟨h.dk.qL j w (k _ o 0 r.i (by omega)) (k _ u 0 r.m (by omega)) (λf d=>⟨k _ (g f d).1 0 (r.fb f d) (by omega),λc a=>k _ ((g f d).2 c a) 0 (r.fx f d c a) (by omega)⟩),
  by rw[k _ x 1 r.p (by omega)];exact h.st,h.le.keep λc a=>k _ (A c a) 4 (r.lx c a) (by omega),h.en.keep λc a=>k _ (C c a) 5 (r.ex c a) (by omega),
  h.hf.qL (K':=λ_=>True) j (k _ y 2 r.b (by omega)) (k _ z 3 r.mp (by omega)) (λc a=>k _ (D c a) 6 (r.qx c a) (by omega)),r,h.fo,h.wf,h.PK,h.su⟩
theorem bU.gr(h:bU ρ s B room fs l q sure)(g:Gr s t):bU ρ t B room fs l q sure:=h.keep g.1 g.2.1 λc a _=>g.2.2 c a
theorem bU.R7(h:bU ρ s B room fs l q sure)(a:∀c,c<s.size->ρ' c=ρ c):bU ρ' s B room fs l q sure:=by
 obtain⟨n,o,t,u,v,w⟩:=h.Cx;obtain⟨j,k,g⟩:=h.dk.Cx;have r:=h.ro
 exact⟨h.dk,h.st,h.le,h.en,h.hf,⟨by rw[a _ n];exact r.p,by rw[a _ o];exact r.b,by rw[a _ t];exact r.mp,λc d=>by rw[a _ (u c d)];exact r.lx c d,λc d=>by rw[a _ (v c d)];exact r.ex c d,
  λc d=>by rw[a _ (w c d)];exact r.qx c d,by rw[a _ j];exact r.i,by rw[a _ k];exact r.m,λf e=>by rw[a _ (g f e).1];exact r.fb f e,λf e c d=>by rw[a _ ((g f e).2 c d)];exact r.fx f e c d⟩,h.fo,h.wf,h.PK,h.su⟩
end
section
variable {ρ ρ':Nat->Nat}{s t:St}{D:w9}{room:Int}{fs:List Fl}{l:List bM}{q:gJ}{sure:Nat}{i m:Nat}{e:bM}
theorem xS{g g':Mem}{P i j:Nat}{x:S}{vs:List S}{l:List (Nat×Nat×er)}(h:g i=some (.K true vs))(c:g' i=some (.K true vs))(a:vs[j]? = some x)(d:∀q k b,(q,k,b)∈l->k≠i) :
 aa (Z (.ptr i j)) (cl P g l)=aa (Z (.ptr i j)) g':=by
 have e:cl P g l i=g i:=qR P g i l λq k b f _=>d q k b f
 rw[ag (e.trans h) a,ag c a]
theorem qQ{k n:Nat}{x:MB}{r:List (Nat×Nat×er)}{q j:Nat}{b:er}(h:(q,j,b)∈wC k n x r):j=n\/(q,j,b)∈r:=by
 unfold wC at h;split at h
 ·rcases cq.1 h with h | h
  ·cases h;exact .inl rfl
  ·exact .inr h
 ·exact .inr h
abbrev AM(i b:Nat)(lx ex:S)(sure:Nat):List S:=[.ptr i 0,lx,ex,.ptr b 0,.int .i64 sure]
theorem xW(d:Nat){p b:Nat}{lx ex:S}(g:s.get p=some (.K true (AM i b lx ex sure)))(e:Rd 1 s ex l.length ((pf l).map (S.int .i64))){n:Nat}(u:n<=l.length)(t:l.length<=3000) :
 R (d+1) 46 [Z (.ptr p 0),J n] s=some (J (kg l n:Nat),s):=by
 rw[Nk];unfold f46;cases n with
 |zero=>simp[BQ]
 |succ n=>
  have k:aa (Z (.ptr p 2)) s.get=some (Z ex):=ag g rfl;have w1:IntKind.i64.wrap (((n+1:Nat):Int)-1)=(n:Int):=by rw[aw _ (by omega) (by omega)];omega
  obtain⟨P,h,o⟩:=e.CJ (i:=(n:Int)) (j:=n) (v := .int .i64 (kg l (n+1):Nat)) rfl (by rw[cL,Gx (by omega)];rfl);have c:¬((n+1:Nat):Int)=0:=by omega
  generalize((n+1:Nat):Int)=q,((kg l (n+1):Nat):Int)=r at*;simp[c,k,w1,h,o]
theorem bU.ok(h:bU ρ s D room fs l q sure):l.all bR=true/\H8 q/\q.dV.length<=2000:=by
 obtain⟨a,b,c⟩:=oM h.fo yY;have:=h.PK;exact⟨a,b,by simp[j4]at c;omega⟩
theorem K5(d:Nat)(h:bU ρ s D room fs l q sure)(he:cg q e=0)(hw:nI e)(hl:l.length<2000) :
 ∃ρ' D' t,R (d+11) 44 [Z (.ptr D.p 0),AE e] s=some (B true,t)/\bU ρ' t D' room fs (l++[e]) (ed q e) sure/\s.size<=t.size/\(D'.p=D.p/\D'.i=D.i/\D'.m=D.m) ∧
  (∀c,c<s.size->ρ' c=ρ c)/\∀c,c<s.size->(ρ c=0\/7<=ρ c)->t.get c=s.get c:=by
 obtain⟨p1,p2,p3,p4,p5,p6⟩:=h.Cx;obtain⟨SD,SX,Td⟩:=h.ok;have r:=h.ro;have hm:=AH he;obtain⟨s1,T⟩:=aZ (s.push (.K true (cE e)));have S1:aE s (b6 (AE e))=some (Z (.ptr s.size 0),s1):=by rw[T];rfl
 have g1:Gr s s1:=by rw[T];exact Gr.push h.nE _
 have b1:s1.get s.size=some (.K true (cE e)):=by rw[T];exact St.ec
 have Tg:=eA (g:=s1.get) b1;have z1:s1.size=s.size+1:=by rw[T];simp
 obtain⟨y,s2,e2,g2,f2⟩:=xu d g1.wf e hw;have Sp:dW e=some (e5 (bF e)):=by unfold dW;rw[af hm]
 have Tc:=f2 _ Sp;rw[Sp]at e2;have ly:=Tc.rd.lens;have b2:=g2.get b1 g1.wf;have l2:=eA (g:=s2.get) b2;have SB:=g1.trans g2;have h2:=h.gr SB;have z2:=g2.2.1;have q3:aa (Z (.ptr D.p 3)) s2.get=some (Z (.ptr D.b 0)):=ag h2.st rfl;obtain⟨u,y3,e3,O⟩:=G8 d h2.hf SX (by omega) e;rw[he]at e3 O;rw[af rfl]at O;have k3:=O.gr.2.2;have z3:=O.gr.2.1;have Ta:∀c,c<s2.size->c≠D.b->c≠D.mp->own D.qx≠some c->u.get c=s2.get c:=λc k U Sl Sm=>k3 c k ⟨U,Sl,Sm⟩
 have kr:∀c,c<s.size->ρ c≠2->ρ c≠3->ρ c≠6->u.get c=s.get c:=λc k U Sl Sm=>by
  rw[Ta c (by omega) (λe=>U (by rw[e];exact r.b)) (λe=>Sl (by rw[e];exact r.mp)) (λe=>Sm (r.qx c e)),SB.2.2 c k]
 have G:u.get D.p=some (.K true (AM D.i D.b D.lx D.ex sure)):=by rw[kr _ p1 (by rw[r.p];decide) (by rw[r.p];decide) (by rw[r.p];decide)];exact h.st
 have SF:Ow 8 u D.lx l.length (cells cE l):=h.le.keep λc k=>kr c (p4 c k) (by rw[r.lx c k];decide) (by rw[r.lx c k];decide) (by rw[r.lx c k];decide)
 have Sy:Ow 1 u D.ex l.length ((pf l).map (S.int .i64)):=h.en.keep λc k=>kr c (p5 c k) (by rw[r.ex c k];decide) (by rw[r.ex c k];decide) (by rw[r.ex c k];decide)
 have b3:u.get s.size=some (.K true (cE e)):=by
  rw[Ta _ (by omega) (by omega) (by omega) (λk=>by have:=p6 _ k;omega)];exact b2
 have q2:aa (Z (.ptr D.p 2)) u.get=some (Z D.ex):=ag G rfl;have q1:aa (Z (.ptr D.p 1)) u.get=some (Z D.lx):=ag G rfl;have Th:=SF.rd.lens;have e4:=xW (d+9) (l:=l) G Sy.rd (au _) (by omega);rw[pV]at e4;have Te:=sW l SD;have Tf:=pO Sp;obtain⟨E1,SC⟩:=aZ ((((bj l).length+(e5 (bF e)).length:Nat):Int):Int);have w1:IntKind.i64.wrap (((bj l).length:Int)+((e5 (bF e)).length:Int))=E1:=by rw[SC,aw _ (by omega) (by omega)];omega
 have L5:=Fr.lit 1 O.gr.wf (n:=1) (vs:=[.int .i64 E1]) rfl;obtain⟨s5,Sr⟩:=aZ (u.push (.K true [.int .i64 E1]));rw[<-Sr]at L5;have S2:aE u (aN 1 (aA [iz] [(0,1,J E1)]))=some (Z (.sl u.size 0 1 (.known 1)),s5):=by rw[Sr];simp[aE,aN,aA,V.cells,aQ]
 have z5:s5.size=u.size+1:=by rw[Sr];simp
 obtain⟨z,s6,SR,SO,z6,Sz,SI,SG⟩:=(Sy.gr O.gr.wf L5.gr).append (by_:=8) L5.gr.wf (by omega) L5.rd.src rfl (by omega);have SL:own D.ex≠some D.p:=λk=>by have:=r.ex _ k;rw[r.p]at this;cases this
 have Sw:own D.lx≠some D.p:=λk=>by have:=r.lx _ k;rw[r.p]at this;cases this
 have k6:∀c,c<u.size->own D.ex≠some c->s6.get c=u.get c:=λc k hx=>by rw[SI c (by omega) hx,L5.gr.2.2 c k]
 have S6:s6.get D.p=some (.K true (AM D.i D.b D.lx D.ex sure)):=by rw[k6 _ (by omega) SL];exact G
 obtain⟨C,H⟩:=aZ (s6.set D.p (.K true (AM D.i D.b D.lx z sure)));have S7:aj 1 (Z (.ptr D.p 2)) (Z z) s6=some (tt,C):=by rw[H];exact aJ S6 (by simp)
 have k7:∀c,c≠D.p->C.get c=s6.get c:=λc k=>by rw[H,St.bO k]
 have z7:C.size=s6.size:=by rw[H];simp
 have SP:C.wf:=by rw[H];exact St.wf_set SO (by omega) _
 have p7:C.get D.p=some (.K true (AM D.i D.b D.lx z sure)):=by rw[H,St.get_set_same]
 have SU:aa (Z (.ptr D.p 2)) (cl 12 u.get (wC 15 u.size (aN 1 (aA [iz] [(0,1,J E1)])) []))=aa (Z (.ptr D.p 2)) u.get:=
  xS G G rfl λq j b hm=>by
   rcases qQ hm with rfl | hm
   ·omega
   ·cases hm
 have S5:aa (Z (.ptr D.p 1)) C.get=some (Z D.lx):=ag p7 rfl;have SV:own D.ex≠some s.size:=λk=>by have:=p5 _ k;omega
 have Ti:own D.lx≠some s.size:=λk=>by have:=p4 _ k;omega
 have b7:C.get s.size=some (.K true (cE e)):=by rw[k7 _ (by omega),k6 _ (by omega) SV];exact b3
 have l7:=eA (g:=C.get) b7;have SA:∀c,own D.lx=some c->own D.ex≠some c:=λc k hx=>by have a:=r.lx c k;rw[r.ex c hx]at a;cases a
 have SZ:Ow 8 C D.lx l.length (cells cE l):=SF.keep λc k=>by rw[k7 c (λe=>Sw (e ▸ k)),k6 c (by have:=p4 c k;omega) (SA c k)]
 have L8:=Fr.lit 8 SP (n:=1) (vs:=cE e) rfl;obtain⟨s8,Ss⟩:=aZ (C.push (.K true (cE e)));rw[<-Ss]at L8;have S3:aE C (aN 1 (aA [iz,iz,iz,iz,iz,iz,.int .u32 0,.str []] [(0,8,AE e)]))=some (Z (.sl C.size 0 1 (.known 1)),s8):=by rw[Ss];rfl
 have z8:s8.size=C.size+1:=by rw[Ss];simp
 obtain⟨N,s9,SS,S9,z9,S0,SJ,SH⟩:=(SZ.gr SP L8.gr).append (by_:=72) L8.gr.wf (by omega) L8.rd.src rfl (by omega);have SY:∀c,c<C.size->own D.lx≠some c->s9.get c=C.get c:=λc k hx=>by rw[SJ c (by omega) hx,L8.gr.2.2 c k]
 have S8:s9.get D.p=some (.K true (AM D.i D.b D.lx z sure)):=by rw[SY _ (by omega) Sw];exact p7
 obtain⟨w,E⟩:=aZ (s9.set D.p (.K true (AM D.i D.b N z sure)));have SN:aj 1 (Z (.ptr D.p 1)) (Z N) s9=some (tt,w):=by rw[E];exact aJ S8 (by simp)
 have Su:∀c,c≠D.p->w.get c=s9.get c:=λc k=>by rw[E,St.bO k]
 have Tj:w.size=s9.size:=by rw[E];simp
 have Sk:w.wf:=by rw[E];exact St.wf_set S9 (by omega) _
 have S4:w.get D.p=some (.K true (AM D.i D.b N z sure)):=by rw[E,St.get_set_same]
 have kk:∀c,c<u.size->c≠D.p->own D.ex≠some c->own D.lx≠some c->w.get c=u.get c:=λc k U Sl Sm=>by
  rw[Su c U,SY c (by omega) Sm,k7 c U,k6 c k Sl]
 have Sv:∀c,own z=some c->own D.ex=some c\/s5.size<=c:=λc k=>by
  rcases SG with e | e | ⟨c',e,Sn⟩
  ·rw[e]at k;cases k
  ·rw[e]at k;exact .inl k
  ·rw[e]at k;cases k;exact .inr Sn
 have SK:∀c,own N=some c->own D.lx=some c\/s8.size<=c:=λc k=>by
  rcases SH with e | e | ⟨c',e,Sn⟩
  ·rw[e]at k;cases k
  ·rw[e]at k;exact .inl k
  ·rw[e]at k;cases k;exact .inr Sn
 have oq:∀c,own y3=some c->own D.qx=some c\/s2.size<=c:=λc k=>by
  obtain⟨U,Sl,Sm⟩:=O.ow c k;by_cases SW:c<s2.size
  ·left;by_cases hx:own D.qx=some c
   ·exact hx
   ·exact absurd ⟨Sl,Sm,hx⟩ (U SW)
  ·exact .inr (by omega)
 obtain⟨ρ',I⟩:=aZ (λc=>if c<s.size then ρ c else if c<s2.size then 9 else if c<u.size then 6 else if c<C.size then 5 else 4:Nat->Nat);have o:∀c,c<s.size->ρ' c=ρ c:=λc k=>by rw[I];exact af k
 have Sj:∀c,s2.size<=c->c<u.size->ρ' c=6:=λc a b=>by rw[I];dsimp only;rw[ae (by omega),ae (by omega),af b]
 have Y:∀c,u.size<=c->c<C.size->ρ' c=5:=λc a b=>by rw[I];dsimp only;rw[ae (by omega),ae (by omega),ae (by omega),af b]
 have X:∀c,C.size<=c->ρ' c=4:=λc a=>by rw[I];dsimp only;rw[ae (by omega),ae (by omega),ae (by omega),ae (by omega)]
 obtain⟨d1,d2,d3⟩:=h.dk.Cx
 have kd:∀c,c<s.size->(ρ c=0\/7<=ρ c)->w.get c=s.get c:=λc k hr=>by
  rw[kk c (by omega) (λe=>by rw[e,r.p]at hr;omega) (λe=>by have:=r.ex c e;omega) (λe=>by have:=r.lx c e;omega),kr c k (by omega) (by omega) (by omega)]
 have Tb:=r.i;have rm:=r.m;have SM:∀c,own y3=some c->c<u.size:=λc k=>O.ins.lt O.gr.wf k
 have SQ:∀c,own z=some c->c<s6.size:=λc k=>Sz.lt SO k
 have Sx:∀c,own y3=some c->c≠D.p/\own D.ex≠some c/\own D.lx≠some c:=λc k=>by
  rcases oq c k with e | e
  ·have:=r.qx c e;exact⟨(λF=>by rw[F,r.p]at this;cases this),(λF=>by rw[r.ex c F]at this;cases this),(λF=>by rw[r.lx c F]at this;cases this)⟩
  ·exact⟨by omega,λF=>by have:=p5 c F;omega,λF=>by have:=p4 c F;omega⟩
 refine⟨ρ',{ D with lx:=N,ex:=z,qx:=y3 },w,?_,⟨?_,S4,?_,?_,?_,⟨?_,?_,?_,?_,?_,?_,?_,?_,?_,?_⟩,sV h.fo he,?_,by simp;omega,by simp;have:=h.su;omega⟩,by omega,⟨rfl,rfl,rfl⟩,o,kd⟩
 ·rw[yU];unfold f44;clear I o Sj Y X kd kk;simp only[aH,Nat.reduceAdd]at e2 e3 e4;generalize R (d+10)=rr at*;simp[S1,Tg,e2,ai,q3,l2,e3,q2,q1,Th,e4,ly,w1,S2,SR,S7,SU,S5,l7,S3,SS,SN]
 ·exact h.dk.qL Sk (by omega) (kd _ d1 (.inl Tb)) (kd _ d2 (.inl rm)) λf Q=>⟨kd _ (d3 f Q).1 (.inl (r.fb f Q)),λc k=>kd _ ((d3 f Q).2 c k) (.inl (r.fx f Q c k))⟩
 ·have:=S0.keep (t:=w) λc k=>Su c (by
   rcases SK c k with e | e
   ·exact λF=>Sw (F ▸ e)
   ·omega)
  rw[dK]
  simpa using this
 ·have:=Sz.keep (t:=w) λc k=>by
   have SE:c≠D.p:=by
    rcases Sv c k with e | e
    ·exact λF=>SL (F ▸ e)
    ·omega
   rw[Su c SE,SY c (by have:=SQ c k;omega) (λF=>by
    rcases Sv c k with e | e
    ·exact SA c F e
    ·have:=p4 c F;omega),k7 c SE]
  rw[CZ,lK,<-SC]
  simpa using this
 ·exact O.qL (K':=λ_=>True) Sk (kk _ (by omega) (λe=>by have:=r.b;rw[e,r.p]at this;cases this) (λe=>by have:=r.ex _ e;rw[r.b]at this;cases this) (λe=>by have:=r.lx _ e;rw[r.b]at this;cases this))
   (kk _ (by omega) (λe=>by have:=r.mp;rw[e,r.p]at this;cases this) (λe=>by have:=r.ex _ e;rw[r.mp]at this;cases this) (λe=>by have:=r.lx _ e;rw[r.mp]at this;cases this))
   (λc k=>kk c (SM c k) (Sx c k).1 (Sx c k).2.1 (Sx c k).2.2)
 ·rw[o _ p1];exact r.p
 ·rw[o _ p2];exact r.b
 ·rw[o _ p3];exact r.mp
 ·intro c k;rcases SK c k with e | e
  ·rw[o c (p4 c e)];exact r.lx c e
  ·exact X c (by omega)
 ·intro c k;rcases Sv c k with e | e
  ·rw[o c (p5 c e)];exact r.ex c e
  ·exact Y c (by omega) (by have:=SQ c k;omega)
 ·intro c k;rcases oq c k with e | e
  ·rw[o c (p6 c e)];exact r.qx c e
  ·exact Sj c e (SM c k)
 ·rw[o _ d1];exact Tb
 ·rw[o _ d2];exact rm
 ·intro f Q;rw[o _ (d3 f Q).1];exact r.fb f Q
 ·intro f Q c k;rw[o _ ((d3 f Q).2 c k)];exact r.fx f Q c k
 ·intro x hx;rcases dP.1 hx with hx | hx
  ·exact h.wf x hx
  ·rw[df]at hx;rw[hx];exact hw
end
def fF:Bs:=[108,111,103]
set_option maxRecDepth 100000 in
theorem mI:Ah fF:=λd s=>BK d s (by kernel_rfl) (jm rfl (by kernel_rfl) rfl)
section
variable {ρ ρ':Nat->Nat}{s t:St}{D:w9}{room:Int}{fs fs':List Fl}{l:List bM}{q:gJ}{sure:Nat}{i m:Nat}{e:bM}
theorem bU.PD(h:bU ρ s D room fs l q sure)(j:Dk t D.i D.m room fs')(H:s.size<=t.size)(E:∀c,c<s.size->ρ c≠0->t.get c=s.get c)
 (o:∀f∈fs',(f.fb<s.size->ρ f.fb=0)/\∀c,own f.x=some c->c<s.size->ρ c=0):bU (λc=>if c<s.size then ρ c else 0) t D room fs' l q sure:=by
 obtain⟨u,v,w,y,z,A⟩:=h.Cx;obtain⟨B,C,F⟩:=h.dk.Cx;have r:=h.ro;have k:=λc a (n:Nat) (e:ρ c=n) (G:n≠0)=>E c a (by omega)
 refine⟨j,by rw[k _ u 1 r.p (by omega)];exact h.st,h.le.keep λc a=>k _ (y c a) 4 (r.lx c a) (by omega),h.en.keep λc a=>k _ (z c a) 5 (r.ex c a) (by omega),
  h.hf.qL (K':=λ_=>True) j.wf (k _ v 2 r.b (by omega)) (k _ w 3 r.mp (by omega)) (λc a=>k _ (A c a) 6 (r.qx c a) (by omega)),?_,h.fo,h.wf,h.PK,h.su⟩
 refine⟨by rw[af u];exact r.p,by rw[af v];exact r.b,by rw[af w];exact r.mp,λc a=>by rw[af (y c a)];exact r.lx c a,λc a=>by rw[af (z c a)];exact r.ex c a,λc a=>by rw[af (A c a)];exact r.qx c a,
  by rw[af B];exact r.i,by rw[af C];exact r.m,λf g => ?_,λf g c a => ?_⟩
 ·by_cases d:f.fb<s.size
  ·rw[af d];exact(o f g).1 d
  ·rw[ae d]
 ·by_cases d:c<s.size
  ·rw[af d];exact(o f g).2 c a d
  ·rw[ae d]
theorem Fi{k:Nat}{f g x:Fl}(c:fs[k]? = some f)(h:x∈fs.set k g):x=g\/x∈fs:=by
 rcases List.mem_or_eq_of_mem_set h with h | h
 ·exact .inr h
 ·exact .inl h
end
section
variable {ρ ρ':Nat->Nat}{s t:St}{D:w9}{room:Int}{fs fs':List Fl}{l:List bM}{q:gJ}{sure:Nat}{i m:Nat}{e:bM}
theorem CY(d:Nat)(h:Dk s i m room fs){nm:List UInt8}(a:∀g∈fs,g.nm≠nm)(c:Ah nm):R (d+3) 47 [Z (.ptr i 0),Z (.str nm)] s=some (J 9,s):=by
 rw[EI];unfold f47;have b:=kZ d h a c;generalize R (d+2)=r at b ⊢;simp[b,ai]
theorem bU.OY(h:bU ρ s D room fs l q sure){n:Nat}(u:n<=l.length):bU ρ (s.set D.p (.K true (AM D.i D.b D.lx D.ex n))) D room fs l q n:=by
 obtain⟨v,z,A,B,C,E⟩:=h.Cx;obtain⟨w,x,y⟩:=h.dk.Cx;have r:=h.ro
 have k:∀c (j:Nat),ρ c=j->j≠1->(s.set D.p (.K true (AM D.i D.b D.lx D.ex n))).get c=s.get c:=λc j e t=>St.bO λo=>by
  rw[o,r.p]at e;exact t e.symm
 have g:(s.set D.p (.K true (AM D.i D.b D.lx D.ex n))).wf:=St.wf_set h.nE v _
 exact⟨h.dk.qL g (by simp) (k _ 0 r.i (by decide)) (k _ 0 r.m (by decide)) (λf d=>⟨k _ 0 (r.fb f d) (by decide),λc a=>k _ 0 (r.fx f d c a) (by decide)⟩),St.dh,
  h.le.keep λc a=>k _ 4 (r.lx c a) (by decide),h.en.keep λc a=>k _ 5 (r.ex c a) (by decide),h.hf.qL (K':=λ_=>True) g (k _ 2 r.b (by decide)) (k _ 3 r.mp (by decide)) (λc a=>k _ 6 (r.qx c a) (by decide)),r,h.fo,h.wf,h.PK,u⟩
theorem L8(d:Nat)(h:bU ρ s D room fs l q sure):R (d+1) 24 [Z (.ptr D.p 0)] s=some (J sure,s):=by
 have b:aa (Z (.ptr D.p 4)) s.get=some (J sure):=ag h.st rfl;have a:lu .p (Z (.ptr D.p 0)) (Z .c9)=some (B false):=rfl;rw[M6];unfold f24;simp[a,b]
theorem LX(d:Nat)(h:bU ρ s D room fs l q sure):∃t,R (d+2) 32 [Z (.ptr D.p 0)] s=some (AP q.cX,t)/\Gr s t:=by
 have G:lu .p (Z (.ptr D.p 0)) (Z .c9)=some (B false):=rfl;obtain⟨s1,e⟩:=aZ (s.push (.K true (cP bV)));have r:aE s (a6 [iz,iz,iz,iz,iz,iz])=some (Z (.ptr s.size 0),s1):=by rw[e];rfl
 have k:Gr s s1:=by rw[e];exact Gr.push h.nE _
 have E:s1.get s.size=some (.K true (cP bV)):=by rw[e];exact St.ec
 have C:=h.gr k;have H:aa (Z (.ptr D.p 3)) s1.get=some (Z (.ptr D.b 0)):=ag C.st rfl;obtain⟨s2,f⟩:=aZ (s1.push (.K true (cP bV)));have u:aE s1 (a6 [iz,iz,iz,iz,iz,iz])=some (Z (.ptr s1.size 0),s2):=by rw[f];rfl
 have j:Gr s1 s2:=by rw[f];exact Gr.push k.wf _
 have y:s2.get s1.size=some (.K true (cP bV)):=by rw[f];exact St.ec
 have I:=HM (C.gr j).hf.st;obtain⟨s3,g⟩:=aZ (s2.set s1.size (.K true (cP q.cX)));have w:aj 6 (Z (.ptr s1.size 0)) (AP q.cX) s2=some (tt,s3):=by rw[g];exact gB y rfl
 have n:ay 6 (Z (.ptr s1.size 0)) s3.get=some (AP q.cX):=k3 (by rw[g];exact St.dh);have J:=j.2.1
 have A:Gr s1 s3:=by
  rw[g];exact⟨St.wf_set j.wf (j.wf.lt y) _,by simpa using J,λc m=>by rw[St.bO (by omega)];exact j.2.2 c m⟩
 have F:R (d+1) 84 [Z (.ptr D.b 0)] s1=some (AP q.cX,s3):=by
  rw[NL];unfold f84;simp[u,I,w,n,rC,aD,a8]
 have z:=A.get E k.wf;obtain⟨v,i⟩:=aZ (s3.set s.size (.K true (cP q.cX)));have x:aj 6 (Z (.ptr s.size 0)) (AP q.cX) s3=some (tt,v):=by rw[i];exact gB z rfl
 have o:ay 6 (Z (.ptr s.size 0)) v.get=some (AP q.cX):=k3 (by rw[i];exact St.dh);have a:=k.trans A;refine⟨v,?_,?_⟩
 ·rw[Nb];unfold f32;generalize R (d+1)=L at*;simp[r,G,H,F,x,o,rC,aD,a8]
 ·rw[i];exact⟨St.wf_set a.wf (a.wf.lt z) _,by simpa using a.2.1,λc m=>by rw[St.bO (by omega)];exact a.2.2 c m⟩
theorem A3(d:Nat)(h:bU ρ s D room fs l q sure):∃y t,R (d+2) 23 [Z (.ptr D.p 0)] s=some (Z y,t)/\Fr 8 s t y l.length (cells cE l):=by
 have G:lu .p (Z (.ptr D.p 0)) (Z .c9)=some (B false):=rfl;have I:aa (Z (.ptr D.p 1)) s.get=some (Z D.lx):=ag h.st rfl;have j:=dn (e:=8) mq l;have k:=h.Cx.2.2.2.1;have C:=h.PK
 have w:∃y t,R (d+1) 78 [Z D.lx] s=some (Z y,t)/\Fr 8 s t y l.length (cells cE l):=by
  rw[NI];unfold f78
  have go:lu .l (Z D.lx) (Z .av)=some (B false)->∃y t,(bd (lu .l (Z D.lx) (Z .av)) λO=>br O (some ((Z .av),s)) (ax (aE s (aN 0 (aA [] []))) λQ J=>ax (aF 8 72 Q (Z D.lx) J) λS N=>some (S,N)))=some (Z y,t)/\Fr 8 s t y l.length (cells cE l):=by
   intro e;have o:=Fr.lit 8 h.nE (n:=0) (vs:=[]) rfl;have H:aE s (aN 0 (aA [] []))=some (Z (.sl s.size 0 0 (.known 0)),s.push (.K true [])):=by simp[aE,aN,aA]
   obtain⟨y,t,u,f,_⟩:=o.append (by_:=72) (by omega) (h.le.rd.gr k o.gr).src j (by omega);simp only[a7,dD]at f;exact⟨y,t,by simp[e,H,u],f⟩
  rcases h.le.ow with ⟨g,r⟩ | ⟨c,rows,g,r,_⟩ | ⟨c,rows,cap,g,E,_⟩
  ·have F:l=[]:=cJ r;rw[g];have e:lu .l (Z .av) (Z .av)=some (B true):=rfl;refine⟨.av,s,by simp[e],?_⟩;rw[F];exact Fr.nil 8 h.nE
  ·exact go (by rw[g];rfl)
  ·exact go (by rw[g];rcases E with rfl | rfl<;>rfl)
 obtain⟨y,t,x,z⟩:=w;refine⟨y,t,?_,z⟩;rw[M5];unfold f23;generalize R (d+1)=T at*;simp[G,I,x]
end
structure FV where
 nm:Bs
 l:List S
 sure:Nat
def vw(f:Fl):FV:=⟨f.nm,f.l,f.sure⟩
abbrev ib(fs:List Fl):List FV:=fs.map vw
def wZ(n:Bs)(g:FV->FV)(vs:List FV):List FV:=vs.map λv=>if v.nm=n then g v else v
def vu(n:Bs)(vs:List FV):Bool:=vs.any λv=>v.nm == n
def Cq(n:Bs)(vs:List FV):List FV:=wZ n (λv=>⟨v.nm,v.l,v.l.length⟩) vs
def IK(n:Bs)(k:Nat)(vs:List FV):List FV:=wZ n (λv=>⟨v.nm,v.l.take k,min v.sure k⟩) vs
def DF(n:Bs)(vs:List FV):List FV:=vs.filter λv => !(v.nm == n)
theorem Br{n:Bs}{vs:List FV}:vu n vs=true↔∃v∈vs,v.nm=n:=by
 unfold vu;rw[z8];simp
theorem ua{n:Bs}{vs:List FV}:vu n vs=false↔∀v∈vs,v.nm≠n:=by
 rw[<-Ee,Br];constructor
 ·intro h v a e;exact h ⟨v,a,e⟩
 ·rintro h ⟨v,a,e⟩;exact h v a e
theorem Fo{n:Bs}{g:FV->FV}{vs:List FV}(h:∀v∈vs,v.nm≠n):wZ n g vs=vs:=by
 unfold wZ;rw[oZ (g:=id) λv a=>by simp[h v a]];simp
section
variable {fs fs':List Fl}
theorem sA(fs:List Fl):(ib fs).map (·.nm)=fs.map (·.nm):=by
 unfold ib;rw[jy];rfl
theorem Fp(t:(fs.map (·.nm)).Nodup){k:Nat}{f o:Fl}(d:fs[k]? = some f)(g:FV->FV)(q:vw o=g (vw f)):ib (fs.set k o)=wZ f.nm g (ib fs):=by
 apply nt;intro j;unfold wZ ib;rw[cL,ru,cL,cL];by_cases h:k=j
 ·subst h;have r:=(bq.1 d).1;rw[af rfl,af r,d];have c:=q;simp[vw]at c ⊢;exact c
 ·rw[ae h];cases u:fs[j]? with
  |none=>rfl
  |some x=>
   have n:x.nm≠f.nm:=λe=>h ((List.getElem?_inj (by rw[oY];exact(bq.1 d).1) t).1 (by rw[cL,cL,d,u];simp[e]))
   simp[vw,n]
theorem H4(d:(fs.map (·.nm)).Nodup){k:Nat}{f:Fl}(c:fs[k]? = some f):ib (fs.eraseIdx k)=DF f.nm (ib fs):=by
 induction fs generalizing k with
 |nil=>simp at c
 |cons a r q=>
  rw[eE,o2]at d;cases k with
  |zero=>
   simp at c;subst c
   have n:∀v∈ib r,v.nm≠a.nm:=λv j e=>d.1 (by
    rw[<-e,<-sA];exact gX j)
   simp only[List.eraseIdx_cons_zero];unfold DF;have g:ib (a::r)=vw a::ib r:=rfl;rw[g,Ep];simp only[vw,beq_self_eq_true,p7,eP,cN];rw[Er.2 λv j=>by simpa using n v j]
  |succ k=>
   simp at c;have h:a.nm≠f.nm:=λe=>d.1 (by rw[e];exact gX (bS c))
   have g:ib (a::r)=vw a::ib r:=rfl;have o:ib ((a::r).eraseIdx (k+1))=vw a::ib (r.eraseIdx k):=rfl;rw[o,g,q d.2 c];unfold DF;rw[Ep];simp[vw,h]
theorem qI{n:Bs}(h:vu n (ib fs)=true):∃(k:Nat) (f:Fl),fs[k]? = some f/\f.nm=n:=by
 obtain⟨v,c,e⟩:=Br.1 h;obtain⟨f,a,rfl⟩:=gl.1 c;obtain⟨k,b⟩:=iT a;exact⟨k,f,b,e⟩
theorem uf{n:Bs}(h:vu n (ib fs)=false):∀f∈fs,f.nm≠n:=λf a=>ua.1 h (vw f) (gX a)
end
section
variable {ρ ρ':Nat->Nat}{s t s6 u:St}{D:w9}{room:Int}{fs fs':List Fl}{l es:List bM}{q:gJ}{sure:Nat}{i m:Nat}{e:bM}{y:S}{v0:T}
end
section
variable {ρ ρ':Nat->Nat}{s t:St}{D:w9}{room:Int}{fs fs':List Fl}{l es:List bM}{q:gJ}{sure:Nat}{i m:Nat}{e:bM}{y:S}{v0 v1:T}{bs:Bs}
theorem Gt(d:Nat)(h:Dk s i m room fs){nm:List UInt8}(a:∀g∈fs,g.nm≠nm)(c:Ah nm)(n:Int):R (d+3) 45 [Z (.ptr i 0),Z (.str nm),J n] s=some (J 9,s):=by
 rw[EH];unfold f45;have b:=kZ d h a c;generalize R (d+2)=r at b ⊢;simp[b,ai]
set_option maxRecDepth 100000 in
theorem PM(d:Nat):R (d+1) 52 [Z (.str fF)] s=some (J 0,s):=qU d s (by decide) (by kernel_rfl) (jm rfl (by kernel_rfl) rfl)
end
section
variable {ρ ρ':Nat->Nat}{s t:St}{D:w9}{room:Int}{fs fs':List Fl}{l es:List bM}{q:gJ}{sure:Nat}{i m:Nat}{e:bM}{y:S}{v0 v1:T}{bs:Bs}
end
structure Kp(ρ ρ':Nat->Nat)(s t:St):Prop where
 sz:s.size<=t.size
 ro:∀c,c<s.size->ρ' c=ρ c
 kp:∀c,c<s.size->ρ c≠0->t.get c=s.get c
theorem Kp.refl(ρ:Nat->Nat)(s:St):Kp ρ ρ s s:=⟨au _,λ_ _=>rfl,λ_ _ _=>rfl⟩
theorem Kp.trans{ρ ρ' ρ'':Nat->Nat}{s t u:St}(h:Kp ρ ρ' s t)(k:Kp ρ' ρ'' t u):Kp ρ ρ'' s u:=
 ⟨bl h.sz k.sz,λc a=>by rw[k.ro c (bh a h.sz),h.ro c a],λc a b=>by rw[k.kp c (bh a h.sz) (by rw[h.ro c a];exact b),h.kp c a b]⟩
section
variable {ρ ρ':Nat->Nat}{s t:St}{D:w9}{room:Int}{fs fs':List Fl}{l:List bM}{q:gJ}{sure:Nat}{i m:Nat}{e:bM}{n:Bs}{y:S}{xs:List S}
theorem bU.nd(h:bU ρ s D room fs l q sure):(fs.map (·.nm)).Nodup:=h.dk.nm
theorem Ko(d:Nat)(h:bU ρ s D room fs l q sure)(z:Ah n) :
 ∃ρ' fs' t c,R (d+3) 54 [Z (.ptr D.i 0),Z (.str n)] s=some (J c,t)/\bU ρ' t D room fs' l q sure/\ib fs'=DF n (ib fs)/\Kp ρ ρ' s t:=by
 have r:=h.ro;cases w:vu n (ib fs)with
 |false=>
  have u:=yP d h.dk (uf w) z;refine⟨ρ,fs,s,9,u,h,?_,Kp.refl _ _⟩;unfold DF;rw[Er.2 λv C=>by simpa using ua.1 w v C]
 |true=>
  obtain⟨k,f,y,rfl⟩:=qI w;obtain⟨t,u,E,z1,F⟩:=A2 d h.dk y z;have j:∀c,c<s.size->ρ c≠0->t.get c=s.get c:=λc o B=>F c λe=>B (by rw[e];exact r.m)
  exact⟨_,_,t,0,u,h.PD E (by omega) j λg x=>⟨λ_=>r.fb g (zL x),λc o _=>r.fx g (zL x) c o⟩,H4 h.nd y,by omega,λc o=>af o,j⟩
theorem GQ(d:Nat)(h:bU ρ s D room fs l q sure)(z:Ah n) :
 ∃ρ' fs' t c,R (d+3) 47 [Z (.ptr D.i 0),Z (.str n)] s=some (J c,t)/\bU ρ' t D room fs' l q sure/\ib fs'=Cq n (ib fs)/\Kp ρ ρ' s t:=by
 have r:=h.ro;cases y:vu n (ib fs)with
 |false=>
  have x:=CY d h.dk (uf y) z;refine⟨ρ,fs,s,9,x,h,?_,Kp.refl _ _⟩;exact(Fo (ua.1 y)).symm
 |true=>
  obtain⟨k,f,w,rfl⟩:=qI y;have j:=bS w;obtain⟨t,x,C,z1,E⟩:=Gw d h.dk w z;have u:∀c,c<s.size->ρ c≠0->t.get c=s.get c:=λc o B=>E c λe=>B (by rw[e];exact r.fb f j)
  refine⟨_,_,t,0,x,h.PD C z1 u λg hg => ?_,Fp h.nd w _ rfl,z1,λc o=>af o,u⟩;rcases Fi w hg with rfl | hg
  ·exact⟨λ_=>r.fb f j,λc o _=>r.fx f j c o⟩
  ·exact⟨λ_=>r.fb g hg,λc o _=>r.fx g hg c o⟩
theorem Kn(d:Nat)(h:bU ρ s D room fs l q sure)(B:Ah n){k0:Nat}(z:∀v∈ib fs,v.nm=n->k0<=v.l.length) :
 ∃ρ' fs' t c,R (d+3) 45 [Z (.ptr D.i 0),Z (.str n),J k0] s=some (J c,t)/\bU ρ' t D room fs' l q sure/\ib fs'=IK n k0 (ib fs)/\Kp ρ ρ' s t:=by
 have r:=h.ro;cases y:vu n (ib fs)with
 |false=>
  have x:=Gt d h.dk (uf y) B (k0:Nat);refine⟨ρ,fs,s,9,x,h,?_,Kp.refl _ _⟩;exact(Fo (ua.1 y)).symm
 |true=>
  obtain⟨k,f,w,rfl⟩:=qI y;have o:=bS w;obtain⟨x',t,x,E,z1,F,n1⟩:=IL d h.dk w B (n:=k0) (z (vw f) (gX o) rfl);have u:∀c,c<s.size->ρ c≠0->t.get c=s.get c:=λc j C=>F c λe=>C (by rw[e];exact r.fb f o)
  refine⟨_,_,t,0,x,h.PD E z1 u λg hg => ?_,Fp h.nd w _ rfl,z1,λc j=>af j,u⟩;rcases Fi w hg with rfl | hg
  ·refine⟨λ_=>r.fb f o,λc j _ => ?_⟩;rcases n1 with e | e
   ·rw[e]at j;cases j
   ·rw[e]at j;exact r.fx f o c j
  ·exact⟨λ_=>r.fb g hg,λc j _=>r.fx g hg c j⟩
theorem xy(d:Nat)(h:bU ρ s D room fs l q sure)(p:Ah n){v:FV}(r:v∈ib fs)(a:v.nm=n){bs:Bs}(j:v.l=U bs) :
 ∃y t,R (d+3) 42 [Z (.ptr D.i 0),Z (.str n)] s=some (.c6 [.s y,.s (iz)],t)/\Gr s t/\RB t y bs/\∀c,own y=some c->s.size<=c/\c<t.size:=by
 obtain⟨f,m,rfl⟩:=gl.1 r;obtain⟨k,o⟩:=iT m;obtain⟨y,t,e,g,b,u⟩:=xn d h.dk o (by rw[show f.nm=n from a];exact p);rw[show f.nm=n from a]at e;rw[show f.l=U bs from j]at b;unfold Mx at b;rw[pe]at b;exact⟨y,t,e,g,b,u⟩
end
end Go.Proofs.YtbohejffelipoaaGreatDoor
