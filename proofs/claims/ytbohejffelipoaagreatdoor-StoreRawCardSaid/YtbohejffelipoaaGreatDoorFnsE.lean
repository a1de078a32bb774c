/-
  Several texts in one: what functions that the law reaches compute. No conditions but those named in each line.
-/
import Derived.Test.YtbohejffelipoaaGreatDoorFnsD
import Derived.Test.YtbohejffelipoaaGreatDoorFnsC
import Derived.Test.YtbohejffelipoaaGreatDoorFnsB
import Derived.Test.YtbohejffelipoaaGreatDoorAbsE
set_option linter.unusedVariables false
set_option linter.unusedSimpArgs false
set_option maxHeartbeats 4000000
namespace Go.Proofs.YtbohejffelipoaaGreatDoor
open Go Go.Abs Go.Abs.F
section
variable {s t u s0:St}{x y z b bx lx:S}{bs:Bs}{p:Nat}{g:Sq}{ns:List Nat}
theorem Hg(d:Nat){T0:T}{o:S}(I:ns.length=4)(E:∀n∈ns,n<=1099511627776)(y:FB s u b bs)(C:Rd 1 u o 4 (ns.map λn:Nat=>S.int .u64 (n:Int)))(g:∀c,own o=some c->c<u.size/\own b≠some c)(hl:bs.length<=1000) :
 ∃z O,loops (qt (R (d+1)) 8192) 8192 [T0,Z b,Z o,J 4,J 0] u=some (.exit 0 [T0,Z z],O)/\FB s O z (bs++ef ns):=by
 obtain⟨j,Sl,lp,z,rfl,Y⟩:=aL (f:=qt (R (d+1)) 8192)
  (λq v w=>∃(k:Nat) (b:S),q+k=4/\v=[T0,Z b,Z o,J 4,J k]/\FB s w b (bs++ef (ns.take k))/\Rd 1 w o 4 (ns.map λn:Nat=>S.int .u64 (n:Int))/\(∀c,own o=some c->c<w.size/\own b≠some c))
  (λj w=>∃b,j = .exit 0 [T0,Z b]/\FB s w b (bs++ef ns)) (by
  rintro q v w ⟨k,b,hq,rfl,y,C,g⟩;by_cases hk:k<4
  ·left;obtain⟨n,F⟩:=aZ (ns[k]'(by omega));have x:ns[k]? = some n:=by rw[aU (by omega),F]
   have N:=E n (bS x);obtain⟨P,ix,ld⟩:=C.CJ (i:=(k:Int)) (j:=k) (v:=S.int .u64 ((n:Nat):Int)) rfl (by rw[cL,x];rfl);obtain⟨y1,w1,U,B⟩:=fZ d y.gr.wf n (by omega)
   have Sj:(bs++ef (ns.take k)).length<=1100:=by
    have:=sn (ns.take k);rw[bb]at this;rw[aI];omega
   obtain⟨H,w2,V,X,z2,k2,n2⟩:=FB.MF (Fr.j6 y B.gr) B.rd (by have:=aX n;omega);have Q:(k:Int)<4:=by omega
   have wi:IntKind.i64.wrap ((k:Int)+1)=((k+1:Nat):Int):=by rw[aw _ (by omega) (by omega)];omega
   have G:ns.take (k+1)=ns.take k++[n]:=by rw[cM,x];rfl
   have z1:=B.gr.2.1;refine⟨[T0,Z H,Z o,J 4,J ((k+1:Nat):Int)],w2,q-1,?_,by omega,k+1,H,by omega,rfl,?_,C.keep λc t => ?_,λc t=>⟨by have:=g c t;omega,λr => ?_⟩⟩
   ·unfold qt;generalize R (d+1)=rr at*;simp[Q,ix,ld,U,V,wi]
   ·rw[G,xP,<-bg]
    simpa[ef]using X
   ·rw[k2 c (by have:=g c t;omega) (g c t).2,B.gr.2.2 c (g c t).1]
   ·rcases n2 with e | e | ⟨c',e,Sk⟩
    ·rw[e]at r;cases r
    ·rw[e]at r;exact(g c t).2 r
    ·rw[e]at r;cases r;have:=g c t;omega
  ·right;have D:k=4:=by omega
   subst D;rw[b8 (by omega)]at y;refine⟨.exit 0 [T0,Z b],w,?_,(λv h=>by cases h),b,rfl,y⟩;unfold qt;have:((4:Nat):Int)=4:=rfl;rw[this];simp)
  8192 4 _ u ⟨0,b,by omega,rfl,by simpa[ef]using y,C,g⟩ (by decide)
 exact⟨z,Sl,lp,Y⟩
theorem Fb(d:Nat)(A:s.wf)(r:nJ s x g.l)(f:∀c,own x=some c->c<s.size)(u:RA s z g.a)(h:∀c,own z=some c->c<s.size)(p:g.l.length<=8000)(j:g.a.length<=8000)(q:gL g=false) :
 ∃t,R (d+5) 121 [AQ g x z] s=some (.c6 [.s .av,.s (.int .i64 1)],t)/\Gr s t:=by
 obtain⟨s1,b⟩:=aZ (s.push (.K true (cQ g x z)));have v:aE s (b6 (AQ g x z))=some (Z (.ptr s.size 0),s1):=by rw[b];rfl
 have e:Gr s s1:=by rw[b];exact Gr.push A _
 have n:s1.get s.size=some (.K true (cQ g x z)):=by rw[b];exact St.ec
 have w:=j8 (m:=s1.get) n;obtain⟨y,k,o⟩:=BG d e.wf (r.gr f e) (λc i=>bh (f c i) e.2.1) (u.gr h e) (λc i=>bh (h c i) e.2.1) p j;rw[q]at k;refine⟨y,?_,e.trans o⟩;rw[ve];unfold f121;generalize R (d+4)=B at*;simp[v,w,k,aD,a8]
theorem IF(d:Nat)(A:s.wf)(w:gL g=true)(hi:IQ g){k:Nat}(G:g.t=(k:Int))(y:nJ s x g.l)(m:∀c,own x=some c->c<s.size)(E:RA s z g.a)(n:∀c,own z=some c->c<s.size) :
 ∃h e,R (d+4) 155 [Z x] s=some (.c6 [.s h,.s (iz)],e)/\Gr s e/\(k=0->FB s e h (iE g))/\(k≠0->∃q p,R (d+4) 157 [Z z,J k] e=some (.c6 [.s q,.s (iz)],p)/\FB s p q (iE g)):=by
 have F:=iu w;have f:=w;unfold gL at f;rw[aM]at f;by_cases o:g.t=0
 ·rw[af o,aM,aM,bK]at f;obtain⟨h,e,r,b⟩:=uV (d+2) A y m f.2.1.2 hi.l;refine⟨h,e,r,b.gr,λ_ => ?_,λi=>absurd (by omega) i⟩;unfold iE;rw[af o];exact b
 ·rw[ae o,aM,aM,bK]at f;have u:ug g.l=true:=by rw[f.2.1.1];rfl
  obtain⟨h,e,r,b⟩:=uV (d+2) A y m u hi.l;have j:g.t.toNat=k:=by omega
  have v:=f.2.1.2;rw[j]at v;obtain⟨q,p,B,C⟩:=xg d b.gr.wf (by omega) (by omega) (E.gr n b.gr) (λc D=>bh (n c D) b.gr.2.1) v hi.a;refine⟨h,e,r,b.gr,λi=>absurd (by omega:g.t=0) o,λ_=>⟨q,p,B,?_⟩⟩;unfold iE;rw[ae o,j];exact Fr.from b.gr C
end
theorem CN(w:Int)(l:List e8):(dJ w l).length<=11+77*l.length:=by
 have a:=aX l.length;have b:=xf w (-1) l;unfold dJ;rw[aI];omega
theorem IE{g:Sq}(h:gL g=true):(iE g).length<=4939:=by
 have f:=iu h;unfold gL at h;rw[aM]at h;unfold iE;by_cases c:g.t=0
 ·rw[af c,aM,aM]at h;have b:=h.2.1.2;unfold ug at b;rw[aM]at b;have d:=cm b.2;have e:=CO g.l;rw[af c];omega
 ·rw[ae c,aM,aM]at h;have b:=h.2.1.2;unfold vG at b;rw[aM]at b;have d:=cm b.2;have e:=CN (wK g.t.toNat) g.a;rw[ae c];omega
theorem xh{g:Sq}(h:gL g=true):(bP g).length<=5000:=by
 have a:=IE h;have b:=sn (iv g);have c:(iv g).length=4:=rfl;unfold bP mE;simp only[aI,bB,dO];omega
section
variable {s t u s0:St}{x y z b bx lx:S}{bs:Bs}{p:Nat}{g:Sq}{ns:List Nat}
def LD(g:Sq)(y:S):T:=if(dz g).length<=4000 then .c6 [.s y,.s (iz)]else .c6 [.s .av,.s (.int .i64 8)]
theorem Lt(d:Nat)(SK:s.wf)(Ss:gL g=true)(hi:IQ g)(hx:nJ s x g.l)(Su:∀c,own x=some c->c<s.size)(hz:RA s z g.a)(Sv:∀c,own z=some c->c<s.size)(hl:g.l.length<=8000)(SF:g.a.length<=8000) :
 ∃y t,R (d+5) 121 [AQ g x z] s=some (LD g y,t)/\FB s t y (dz g):=by
 obtain⟨h1,h2,h3,h4,h5,h6,h7⟩:=iu Ss;obtain⟨k,hk⟩:∃k:Nat,g.t=(k:Int):=⟨g.t.toNat,by omega⟩;obtain⟨s1,Sk⟩:=aZ (s.push (.K true (cQ g x z)));have nw:aE s (b6 (AQ g x z))=some (Z (.ptr s.size 0),s1):=by rw[Sk];rfl
 have P:Gr s s1:=by rw[Sk];exact Gr.push SK _
 have b1:s1.get s.size=some (.K true (cQ g x z)):=by rw[Sk];exact St.ec
 have q6:=j8 (m:=s1.get) b1;have Sx:=hx.gr Su P;have w:∀c,own x=some c->c<s1.size:=λc G=>bh (Su c G) P.2.1
 have Sy:=hz.gr Sv P;have A:∀c,own z=some c->c<s1.size:=λc G=>bh (Sv c G) P.2.1
 obtain⟨C,e2,g2⟩:=BG d P.wf Sx w Sy A hl SF;rw[Ss]at e2;have b2:=g2.get b1 P.wf;have L4:=Fr.lit 1 g2.wf (n:=2) (vs:=U [84,75]) rfl;obtain⟨v,Sl⟩:=aZ (C.push (.K true (U [84,75])));rw[<-Sl]at L4;have H:aE C (aN 2 (aA [.int .u8 0,.int .u8 0] [(0,1,(J8 84)),(1,1,(J8 75))]))=some (Z (.sl C.size 0 2 (.known 2)),v):=by rw[Sl];rfl
 have b4:=L4.gr.get b2 g2.wf;have q0:aa (Z (.ptr s.size 0)) v.get=some (J g.i):=ag b4 rfl;have q1:aa (Z (.ptr s.size 1)) v.get=some (J g.t):=ag b4 rfl;have q2:aa (Z (.ptr s.size 2)) v.get=some (J g.f):=ag b4 rfl;have q3:aa (Z (.ptr s.size 3)) v.get=some (J g.o):=ag b4 rfl;have SC:=gQ (a:=g.i) (by omega) (by omega);have SD:=gQ (a:=g.t) (by omega) (by omega);have SE:=gQ (a:=g.f) (by omega) (by omega);have c3:=gQ (a:=g.o-g.f) (by omega) (by omega);have w3:IntKind.i64.wrap (g.o-g.f)=g.o-g.f:=aw _ (by omega) (by omega);have L5:=Fr.lit 1 L4.gr.wf (n:=4) (vs:=(iv g).map λn:Nat=>S.int .u64 (n:Int)) rfl;obtain⟨s5,Sw⟩:=aZ (v.push (.K true ((iv g).map λn:Nat=>S.int .u64 (n:Int))));rw[<-Sw]at L5;have L:aE v (aN 4 (aA [.int .u64 0,.int .u64 0,.int .u64 0,.int .u64 0] [(0,1,J6 (g.i.toNat:Nat)),(1,1,J6 (g.t.toNat:Nat)),(2,1,J6 (g.f.toNat:Nat)),(3,1,J6 ((g.o-g.f).toNat:Nat))]))=some (Z (.sl v.size 0 4 (.known 4)),s5):=by rw[Sw];rfl
 have SH:v.size=C.size+1:=by rw[Sl];simp
 have F4:FB C v (.sl C.size 0 2 (.known 2)) [84,75]:=L4
 obtain⟨SG,s6,lp,X⟩:=Hg (ns:=iv g) (T0:=Z (.ptr s.size 0)) (d+3) rfl (vE Ss) (Fr.j6 F4 L5.gr) L5.rd (λc G=>by
  cases G;refine⟨(L5.new v.size rfl).2,λe => ?_⟩;have e':C.size=v.size:=dQ e;omega) (by simp)
 have X:FB C s6 SG (mE g):=X;have Sm:=(X.gr.get b2 g2.wf);have M:aa (Z (.ptr s.size 4)) s6.get=some (Z x):=ag Sm rfl;have E:=g2.trans X.gr;obtain⟨y0,s7,e7,g7,F0,F1⟩:=IF d X.gr.wf Ss hi hk (Sx.gr w E) (λc G=>by have:=w c G;have:=E.2.1;omega) (Sy.gr A E) (λc G=>by have:=A c G;have:=E.2.1;omega);have Sn:=g7.get Sm X.gr.wf;have B:aa (Z (.ptr s.size 1)) s7.get=some (J k):=by rw[<-hk];exact ag Sn rfl
 have SA:aa (Z (.ptr s.size 5)) s7.get=some (Z z):=ag Sn rfl;have F:=xh Ss;have Q:(mE g).length+(iE g).length<=5000:=by unfold bP at F;rwa [aI]at F
 have D:∀{y7:S} {t7:St},FB s6 t7 y7 (iE g)->∃O N u r b h,aF 1 1 (Z SG) (Z y7) t7=some (Z O,N)/\R (d+4) 161 [Z O] N=some (I .u32 (cB 1 (bP g):Nat),N)/\R (d+4) 160 [I .u32 (cB 1 (bP g):Nat)] N=some (Z u,r)/\aF 1 1 (Z O) (Z u) r=some (Z b,h)/\FB C h b (dz g):=by
  intro y7 t7 f7;obtain⟨O,N,V,f8,z8,k8⟩:=FB.app (Fr.j6 X f7.gr) f7.rd (by omega);have Y:FB C N O (bP g):=f8;have W:=Fm (d+2) Y.rd (by omega);obtain⟨u,r,j,f10⟩:=L2 (d+3) Y.gr.wf (cB 1 (bP g));have SI:(four (cB 1 (bP g))).length=4:=rfl;obtain⟨b,h,p,f11,SM,SJ⟩:=FB.app (Fr.j6 Y f10.gr) f10.rd (by omega);exact⟨O,N,u,r,b,h,V,W,j,p,f11⟩
 have q:∀{b:S} {h:St},FB C h b (dz g)->aG (Z b)=some (J (dz g).length):=λf=>f.rd.lens
 unfold LD;by_cases Sj:k=0
 ·have f7:=F0 Sj;obtain⟨O,N,u,r,b,h,V,W,j,p,f11⟩:=D f7;have Sz:=q f11;refine⟨b,h,?_,Fr.from (P.trans g2) f11⟩;rw[Sj]at B;have T:aa (Z (.ptr s.size 1)) s7.get=some (J 0):=B;rw[ve];unfold f121;clear D q F0 F1 F Q h1 h2 h3 h4 h5 h6 h7 hk B;simp only[aH,Nat.reduceAdd]at lp;generalize R (d+4)=rr,s.size=ss,((cB 1 (bP g):Nat):Int)=SB,(g.i.toNat:Int)=n0,(g.t.toNat:Int)=n1,(g.f.toNat:Int)=n2,((g.o-g.f).toNat:Int)=n3 at*;by_cases Sr:(dz g).length<=4000
  ·rw[af Sr];have cF:¬4000<((dz g).length:Int):=by omega
   generalize((dz g).length:Int)=SL at*;simp[nw,q6,e2,H,q0,SC,q1,SD,q2,SE,q3,w3,c3,L,lp,M,e7,ai,T,V,W,j,p,Sz,cF,aD,a8]
  ·rw[ae Sr];have cF:4000<((dz g).length:Int):=by omega
   generalize((dz g).length:Int)=SL at*;simp[nw,q6,e2,H,q0,SC,q1,SD,q2,SE,q3,w3,c3,L,lp,M,e7,ai,T,V,W,j,p,Sz,cF,aD,a8]
 ·obtain⟨y1,t1,Sp,f71⟩:=F1 Sj;have f7:FB s6 t1 y1 (iE g):=f71;obtain⟨O,N,u,r,b,h,V,W,j,p,f11⟩:=D f7;have Sz:=q f11;have ck:(0:Int)<(k:Int):=by omega
  refine⟨b,h,?_,Fr.from (P.trans g2) f11⟩;rw[ve];unfold f121;clear D q F0 F1 F Q h1 h2 h3 h4 h5 h6 h7 hk;simp only[aH,Nat.reduceAdd]at lp;generalize R (d+4)=rr,s.size=ss,(k:Int)=KK,((cB 1 (bP g):Nat):Int)=SB,(g.i.toNat:Int)=n0,(g.t.toNat:Int)=n1,(g.f.toNat:Int)=n2,((g.o-g.f).toNat:Int)=n3 at*;by_cases Sr:(dz g).length<=4000
  ·rw[af Sr];have cF:¬4000<((dz g).length:Int):=by omega
   generalize((dz g).length:Int)=SL at*;simp[nw,q6,e2,H,q0,SC,q1,SD,q2,SE,q3,w3,c3,L,lp,M,e7,ai,B,SA,ck,Sp,V,W,j,p,Sz,cF,aD,a8]
  ·rw[ae Sr];have cF:4000<((dz g).length:Int):=by omega
   generalize((dz g).length:Int)=SL at*;simp[nw,q6,e2,H,q0,SC,q1,SD,q2,SE,q3,w3,c3,L,lp,M,e7,ai,B,SA,ck,Sp,V,W,j,p,Sz,cF,aD,a8]
end
def sj(l:List Nat):List S:=(l.map λn:Nat=>S.int .u64 (n:Int))++List.replicate (4-l.length) (.int .u64 0)
def cY:List S:=[iz,iz,iz,iz,.av,.av]
section
variable {s t u s0:St}{x y z b bx lx:S}{bs:Bs}{p A P:Nat}{g:Sq}{ns:List Nat}
theorem Df{i:Nat}{w:Bool}{m:Mem}(h:m i=some (.K w cY)):ay 6 (Z (.ptr i 0)) m=some (.v (.agg cY)):=by
 simp[ay,h,cY]
theorem q6{i:Nat}{vs:List S}(h:s.get i=some (.K true vs))(b:vs.length=6):aj 6 (Z (.ptr i 0)) (.v (.agg cY)) s=some (tt,s.set i (.K true cY)):=by
 have a:(V.agg cY).cells.length=6/\0+6<=vs.length:=⟨rfl,by omega⟩;simp only[aj,h,af a];rw[show(V.agg cY).cells=cY from rfl,cK (by rw[b];rfl)]
theorem Hf(d:Nat)(G:u.wf)(Sw:RB u bx bs)(hl:bs.length<=8000)(h6:6<=bs.length)(O:u.get A=some (.K true (sj [])))(I:u.get P=some (.K true cY))(Sl:A≠P)(S:∀c,own bx=some c->c≠A/\c≠P) :
 ∃t,t.size=u.size/\t.wf/\(∀c,c≠A->c≠P->t.get c=u.get c)/\t.get P=some (.K true cY)/\match fR (bs.take (bs.length-4)) 4 2 with
  |none=>loops (lS (R (d+1)) 8192) 8192 [Z bx,Z (.ptr P 0),J ((bs.length-4:Nat):Int),Z (.ptr A 0),J 2,J 0] u=some (.ret (.c6 [.agg cY,.s (.int .i64 2)]),t)
  |some (ns,e)=>loops (lS (R (d+1)) 8192) 8192 [Z bx,Z (.ptr P 0),J ((bs.length-4:Nat):Int),Z (.ptr A 0),J 2,J 0] u=some (.exit 0 [Z bx,Z (.ptr P 0),J ((bs.length-4:Nat):Int),Z (.ptr A 0),J e],t)/\t.get A=some (.K true (sj ns))/\ns.length=4/\e<=bs.length-4:=by
 obtain⟨E,hE⟩:=aZ (bs.length-4);rw[<-hE];obtain⟨B,hB⟩:=aZ (bs.take E);rw[<-hB];have Sv:B.length=E:=by rw[hB,bb];omega
 obtain⟨j,Sz,lp,H,x,h3,h4,D⟩:=aL (f:=lS (R (d+1)) 8192)
  (λq v w=>∃(l:List Nat) (at_:Nat),q+l.length=4/\v=[Z bx,Z (.ptr P 0),J (E:Nat),Z (.ptr A 0),J at_,J l.length]/\w.get A=some (.K true (sj l))/\w.get P=some (.K true cY)/\w.size=u.size/\w.wf/\at_<=E/\(∀c,c≠A->c≠P->w.get c=u.get c) ∧
   fR B 4 2=match fR B q at_ with | none=>none | some (r,e)=>some (l++r,e))
  (λj w=>w.size=u.size/\w.wf/\(∀c,c≠A->c≠P->w.get c=u.get c)/\w.get P=some (.K true cY)/\match fR B 4 2 with
   |none=>j = .ret (.c6 [.agg cY,.s (.int .i64 2)])
   |some (ns,e)=>j = .exit 0 [Z bx,Z (.ptr P 0),J (E:Nat),Z (.ptr A 0),J e]/\w.get A=some (.K true (sj ns))/\ns.length=4/\e<=E) (by
  rintro q v w ⟨l,at_,hq,rfl,O,I,hz,G,Sm,Y,Q⟩;cases q with
  |zero=>
   right;have F:l.length=4:=by omega
   refine⟨.exit 0 [Z bx,Z (.ptr P 0),J (E:Nat),Z (.ptr A 0),J at_],w,?_,(λv h=>by cases h),hz,G,Y,I,?_⟩
   ·unfold lS;rw[F];have:((4:Nat):Int)=4:=rfl;rw[this];simp
   ·rw[Q];simp only[fR,lg];exact⟨trivial,O,F,Sm⟩
  |succ q=>
   have F:l.length<4:=by omega
   have Sn:RB w bx bs:=Sw.keep λc hc=>Y c (S c hc).1 (S c hc).2
   obtain⟨y,pc,hy,oy⟩:=RB.upto Sn (hi:=E) (by omega);rw[<-hB]at hy;have C:=rk d hy (by omega) (at_:=at_) (by omega);have Sj:(l.length:Int)<4:=by omega
   have wi:IntKind.i64.wrap ((l.length:Int)+1)=((l.length+1:Nat):Int):=by rw[aw _ (by omega) (by omega)];omega
   have ag:aO (aA [iz,iz,iz,iz,.av,.av] [])=some (.v (.agg cY)):=rfl;obtain⟨X,k⟩:=aZ (w.set P (.K true cY));have V:aj 6 (Z (.ptr P 0)) (.v (.agg cY)) w=some (tt,X):=by rw[k];exact q6 I rfl
   have b2:X.get P=some (.K true cY):=by rw[k];exact St.dh
   have l2:=Df (m:=X.get) b2
   have bad:fR B (q+1) at_=none->lS (R (d+1)) 8192 [Z bx,Z (.ptr P 0),J (E:Nat),Z (.ptr A 0),J at_,J l.length] w=some (.ret (.c6 [.agg cY,.s (.int .i64 2)]),X)->∃j w',lS (R (d+1)) 8192 [Z bx,Z (.ptr P 0),J (E:Nat),Z (.ptr A 0),J at_,J l.length] w=some (j,w')/\(∀v,j ≠ .normal v)/\w'.size=u.size/\w'.wf/\(∀c,c≠A->c≠P->w'.get c=u.get c)/\w'.get P=some (.K true cY)/\(match fR B 4 2 with
    |none=>j = .ret (.c6 [.agg cY,.s (.int .i64 2)])
    |some (ns,e)=>j = .exit 0 [Z bx,Z (.ptr P 0),J (E:Nat),Z (.ptr A 0),J e]/\w'.get A=some (.K true (sj ns))/\ns.length=4/\e<=E):=λhn e=>by
    rw[hn]at Q;exact⟨_,X,e,(λv h=>by cases h),by rw[k];simpa using hz,by rw[k];exact St.wf_set G (G.lt I) _,λc H x=>by rw[k,St.bO x];exact Y c H x,b2,by rw[Q]⟩
   cases N:fY B at_ with
   |none=>
    right;rw[N]at C;simp only[mf,af (by omega:at_<=B.length)]at C;refine bad (by rw[fR,N]) ?_;unfold lS;generalize R (d+1)=rr at*;simp[Sj,pc,C,ai,ag,V,l2,rC,rT,aD,a8]
   |some o=>
    obtain⟨n,Ss⟩:=o;rw[N]at C;simp only[mf]at C;have Sy:=mT N;by_cases hn:1099511627776<n
    ·right;refine bad (by rw[fR,N];dsimp only;rw[af hn]) ?_;have Sk:(1099511627776:Int)<(n:Int):=(by omega);unfold lS;generalize R (d+1)=rr at*;simp[Sj,pc,C,ai,Sk,ag,V,l2,rC,rT,aD,a8]
    ·left;have Sk:¬(1099511627776:Int)<(n:Int):=by omega
     have ia:bz 4 1 (Z (.ptr A 0)) (J l.length)=some (Z (.ptr A l.length)):=by
      have x:nH (J l.length) 4=some l.length:=by
       have:(0:Int)<=(l.length:Nat)/\(l.length:Int)<((4:Nat):Int):=(by omega);simp[nH];omega
      simp[bz,x]
     obtain⟨w3,g⟩:=aZ (w.set A (.K true (sj (l++[n]))))
     have z:(sj l).set l.length (.int .u64 (n:Int))=sj (l++[n]):=by
      unfold sj;rw[FF _ _ (by simp)];obtain⟨m,Sx⟩:∃m,4-l.length=m+1:=⟨4-l.length-1,by omega⟩;have Sp:4-(l++[n]).length=m:=(by simp;omega);rw[Sx,Sp];simp[uE]
     have Sr:aj 1 (Z (.ptr A l.length)) (J6 (n:Nat)) w=some (tt,w3):=by
      have T:l.length<(sj l).length:=(by unfold sj;simp;omega);rw[g,<-z];exact aJ O T
     have U:(l++[n]).length=l.length+1:=(by simp);refine⟨_,w3,q,?_,by omega,l++[n],Ss,by rw[U];omega,by rw[U],by rw[g];exact St.dh,by rw[g,St.bO (bu Sl)];exact I,by rw[g];simpa using hz,by rw[g];exact St.wf_set G (G.lt O) _,by omega,λc H x=>by rw[g,St.bO H];exact Y c H x,?_⟩
     ·unfold lS;clear z Q bad;generalize R (d+1)=rr at*;simp[Sj,pc,C,ai,Sk,ia,Sr,wi]
     ·rw[Q,fR,N];dsimp only;rw[ae hn];cases fR B q Ss with
      |none=>rfl
      |some o=>simp[bg])
  8192 4 _ u ⟨[],2,rfl,rfl,O,I,rfl,G,by omega,λ_ _ _=>rfl,by cases fR B 4 2<;>rfl⟩ (by decide)
 refine⟨Sz,H,x,h3,h4,?_⟩;have Su:(([]:List Nat).length:Int)=0:=rfl;rw[Su]at lp;have e2:((2:Nat):Int)=2:=rfl;rw[e2]at lp;cases hg:fR B 4 2 with
 |none=>rw[hg]at D;dsimp only at D ⊢;rw[<-D];exact lp
 |some o=>rw[hg]at D;dsimp only at D ⊢;exact⟨by rw[<-D.1];exact lp,D.2⟩
end
def gz(o:Option Sq)(x z:S):T:=match o with
 |some g => .c6 [.agg (cQ g x z),.s (iz)]
 |none => .c6 [.agg cY,.s (.int .i64 2)]
section
variable {s t u s0:St}{x y z b bx lx:S}{bs:Bs}{p A P:Nat}{g:Sq}{ns:List Nat}
theorem Ir(d:Nat){k:Nat}(e:4<=k)(c:k<=1099511627776):R (d+1) 120 [Z bx,J k] s=some (.c6 [.s .av,.s (.int .i64 1)],s):=by
 have a:¬(k:Int)<1:=by omega
 have b:(4:Int)<=(k:Int):=by omega
 rw[A8];unfold f120;simp[a,b,aD,a8]
theorem KW{i t f o:Int}:gL ⟨i,t,f,o,[],[]⟩=false:=by
 unfold gL;by_cases a:t=0
 ·rw[af a];show(_&&(_&&false))=false
  simp
 ·rw[ae a];show(_&&(_&&false))=false
  simp
theorem ET{bs:Bs}{w:Int}{l:List e8}(h:qE bs w=some l):vG w l=true/\∀x∈l,IA x:=by
 unfold qE at h;split at h
 ·cases h
 ·rename_i b;split at h
  ·have c:=dQ h;rw[<-c];rw[kv,not_or]at b;exact⟨by simpa using b.2,λx e=>yI bs _ _ _ _ _ (λa d=>by cases d) x e⟩
  ·cases h
structure Ro(s t:St)(o:Option Sq)(n0 n1 n2 n3:Nat)(x z:S)(c:Int):Prop where
 gr:Gr s t
 ox:∀k,own x=some k->s.size<=k/\k<t.size
 oz:∀k,own z=some k->s.size<=k/\k<t.size
 is:match o with
  |some g=>c=0/\g.i=n0/\g.t=n1/\g.f=n2/\g.o=(n2:Int)+n3/\nJ t x g.l/\RA t z g.a/\IQ g/\g.l.length<=64/\g.a.length<=64
  |none=>c≠0/\x = .av/\z = .av
theorem GY(d:Nat)(C:s.wf)(D:RB s bx bs)(q:∀c,own bx=some c->c<s.size)(E:bs.length<=8000){n0 n1 n2 n3:Nat}(G:n1<=1099511627776) :
 (n1=0->∃x c t,R (d+5) 119 [Z bx] s=some (.c6 [.s x,.s (.int .i64 c)],t)/\Ro s t (Mz [n0,n1,n2,n3] bs) n0 n1 n2 n3 x .av c) ∧
 (n1≠0->∃z c t,R (d+5) 120 [Z bx,J n1] s=some (.c6 [.s z,.s (.int .i64 c)],t)/\Ro s t (Mz [n0,n1,n2,n3] bs) n0 n1 n2 n3 .av z c):=by
 refine⟨λr => ?_,λr => ?_⟩
 ·obtain⟨y,t,e,g,F⟩:=IB (d+1) C D q E;unfold Mz;dsimp only;rw[af r];cases o:qF bs with
  |none=>
   rw[o]at e;exact⟨.av,2,t,e,g,(λk h=>by cases h),(λk h=>by cases h),by show(2:Int)≠0/\_;exact⟨by decide,rfl,rfl⟩⟩
  |some l=>
   rw[o]at e;have f:=F l o;obtain⟨j,w⟩:=EU o
   have n:l.length<=64:=by
    unfold ug at j;rw[aM]at j;exact cm j.2
   refine⟨y,0,t,e,g,f.new,(λk h=>by cases h),?_⟩;show(0:Int)=0/\_
   exact⟨rfl,rfl,by simp[r],rfl,rfl,f.rd,Rd.nil 7 t,⟨w,λx B=>by cases B⟩,n,by simp⟩
 ·unfold Mz;dsimp only;rw[ae r];by_cases u:n1<=3
  ·rw[af u];obtain⟨y,t,e,g,F⟩:=Gb d C (by omega) u D q E;cases o:qE bs (wK n1)with
   |none=>
    rw[o]at e;exact⟨.av,2,t,e,g,(λk h=>by cases h),(λk h=>by cases h),by show(2:Int)≠0/\_;exact⟨by decide,rfl,rfl⟩⟩
   |some l=>
    rw[o]at e;have f:=F l o;obtain⟨j,w⟩:=ET o
    have n:l.length<=64:=by
     unfold vG at j;rw[aM]at j;exact cm j.2
    refine⟨y,0,t,e,g,(λk h=>by cases h),f.new,?_⟩;show(0:Int)=0/\_
    exact⟨rfl,rfl,rfl,rfl,rfl,Rd.nil 2 t,f.rd,⟨λx B=>(by cases B),w⟩,by simp,n⟩
  ·rw[ae u];have e:=Ir (s:=s) (bx:=bx) (d+4) (k:=n1) (by omega) G;exact⟨.av,1,s,e,Gr.refl C,(λk h=>by cases h),(λk h=>by cases h),by show(1:Int)≠0/\_;exact⟨by decide,rfl,rfl⟩⟩
end
section
variable {s t u s0:St}{x y z b bx lx:S}{bs:Bs}{p A P M:Nat}{g:Sq}{ns:List Nat}
theorem Bp(bs:Bs):∀(m at_:Nat) {l:List Nat} {e:Nat},fR bs m at_=some (l,e)->∀n∈l,n<=1099511627776
 | 0,at_,l,e,h,n,hn=>by cases h;cases hn
 |m+1,at_,l,e,h,n,hn=>by
  rw[fR]at h;split at h
  ·cases h
  ·split at h
   ·cases h
   ·rename_i d;split at h
    ·cases h
    ·rename_i r g c;cases h;rcases cq.1 hn with rfl | hn
     ·omega
     ·exact Bp bs m _ c n hn
theorem B1(d:Nat)(o:Option Sq){n0 n1 n2 n3:Nat}{c:Int}(S:Ro s0 s o n0 n1 n2 n3 x z c)(I:t.wf)(u:∀k,k<s.size->own x=some k\/own z=some k->t.get k=s.get k)(U:s.size<=t.size) :
 ∃n E pl,R (d+5) 121 [AQ ⟨n0,n1,n2,(n2:Int)+n3,[],[]⟩ x z] t=some (.c6 [.s pl,.s (.int .i64 E)],n)/\Gr t n/\match o with
  |some g=>cQ g x z=cQ ⟨n0,n1,n2,(n2:Int)+n3,[],[]⟩ x z/\c=0/\(if gL g=true/\(dz g).length<=4000 then E=0/\RB n pl (dz g)else E≠0)
  |none=>c≠0:=by
 obtain⟨Z,G,H,is⟩:=S;cases o with
 |none=>
  obtain⟨r,rfl,rfl⟩:=is;obtain⟨n,e,F⟩:=Fb (g:=⟨n0,n1,n2,(n2:Int)+n3,[],[]⟩) (x := .av) (z := .av) d I (Rd.nil 2 t) (λk j=>by cases j) (Rd.nil 7 t) (λk j=>by cases j) (by simp) (by simp) KW;exact⟨n,1,.av,e,F,r⟩
 |some g=>
  obtain⟨r,J,N,O,Q,rx,Y,X,Sj,l2⟩:=is;have q:cQ g x z=cQ ⟨n0,n1,n2,(n2:Int)+n3,[],[]⟩ x z:=by unfold cQ;rw[J,N,O,Q]
  rw[show AQ ⟨n0,n1,n2,(n2:Int)+n3,[],[]⟩ x z=AQ g x z from(bw (λl=>T.v (V.agg l)) q).symm];have w:nJ t x g.l:=rx.keep λk j=>u k (G k j).2 (.inl j)
  have B:RA t z g.a:=Y.keep λk j=>u k (H k j).2 (.inr j)
  cases D:gL g with
  |false=>
   obtain⟨n,e,F⟩:=Fb d I w (λk j=>by have:=G k j;omega) B (λk j=>by have:=H k j;omega) (by omega) (by omega) D;exact⟨n,1,.av,e,F,q,r,by rw[ae (by rw[D];simp)];decide⟩
  |true=>
   obtain⟨y,n,e,f⟩:=Lt d I D X w (λk j=>by have:=G k j;omega) B (λk j=>by have:=H k j;omega) (by omega) (by omega);unfold LD at e;by_cases C:(dz g).length<=4000
   ·rw[af C]at e;exact⟨n,0,y,e,f.gr,q,r,by rw[af ⟨D,C⟩];exact⟨rfl,f.rd⟩⟩
   ·rw[ae C]at e;exact⟨n,8,.av,e,f.gr,q,r,by rw[ae λh=>C h.2];decide⟩
end
section
variable {s t u s0:St}{x y z b bx lx:S}{bs:Bs}{p A P M:Nat}{g:Sq}{ns:List Nat}
theorem B2(d:Nat)(Tb:s.wf)(S7:RB s bx bs)(SP:∀c,own bx=some c->c<s.size)(hl:bs.length<=8000):∃x z t,R (d+6) 81 [Z bx] s=some (gz (dS bs) x z,t)/\Gr s t:=by
 obtain⟨O,F,g1,b1,z1⟩:=CQ Tb;have b1:O.get s.size=some (.K true cY):=b1;have rb:∀{v:St},Gr s v->RB v bx bs:=λgg=>Rd.gr S7 SP gg
 have Sx:=S7.lens;have SE:aO (aA [iz,iz,iz,iz,.av,.av] [])=some (.v (.agg cY)):=rfl
 have err:∀{v:St},Gr s v->v.get s.size=some (.K true cY)->∃w,aj 6 (Z (.ptr s.size 0)) (.v (.agg cY)) v=some (tt,w)/\ay 6 (Z (.ptr s.size 0)) w.get=some (.v (.agg cY))/\Gr s w:=by
  intro v gv hv;refine⟨_,q6 hv rfl,Df (St.dh),St.wf_set gv.wf (gv.wf.lt hv) _,by simpa using gv.2.1,λc u=>by rw[St.bO (by omega)];exact gv.2.2 c u⟩
 have w1:IntKind.i64.wrap ((bs.length:Int)-4)=(bs.length:Int)-4:=aw _ (by omega) (by omega);by_cases h6:bs.length<6
 ·have N:dS bs=none:=by unfold dS;rw[af (.inl h6)]
  obtain⟨w,st,ld,gw⟩:=err g1 b1;rw[N];refine⟨.av,.av,w,?_,gw⟩;have Sv:(bs.length:Int)-4<2:=by omega
  rw[gP];unfold f81;generalize R (d+5)=rr,s.size=ss at*;simp[F,Sx,w1,Sv,SE,st,ld,rC,rT,aD,a8,gz,bD]
 have Sv:¬(bs.length:Int)-4<2:=by omega
 obtain⟨a0,SY⟩:∃a,bs[0]? = some a:=⟨_,aU (by omega)⟩;obtain⟨SD,SZ⟩:∃a,bs[1]? = some a:=⟨_,aU (by omega)⟩;obtain⟨p0,SA,Sw⟩:=RB.H9 (rb g1) (n:=0) (j:=0) rfl SY;obtain⟨p1,SC,SB⟩:=RB.H9 (rb g1) (n:=1) (j:=1) rfl SZ
 have SQ:bs.take 2=[a0,SD]:=by
  rw[cM,cM,List.take_zero,SY,SZ];rfl
 by_cases SF:a0=84
 rotate_left
 ·have N:dS bs=none:=by unfold dS;rw[af (.inr (by rw[SQ];simp[SF]))]
  obtain⟨w,st,ld,gw⟩:=err g1 b1;rw[N];refine⟨.av,.av,w,?_,gw⟩;have S3:¬(a0.toNat:Int)=84:=λe=>SF (nk (by show a0.toNat=84;omega))
  rw[gP];unfold f81;generalize R (d+5)=rr,s.size=ss at*;simp[F,Sx,w1,Sv,SA,Sw,S3,SE,st,ld,rC,rT,aD,a8,gz,bD]
 have S3:(a0.toNat:Int)=84:=by rw[SF];rfl
 rw[S3]at Sw;by_cases SG:SD=75
 rotate_left
 ·have N:dS bs=none:=by unfold dS;rw[af (.inr (by rw[SQ];simp[SG]))]
  obtain⟨w,st,ld,gw⟩:=err g1 b1;rw[N];refine⟨.av,.av,w,?_,gw⟩;have c3:¬(SD.toNat:Int)=75:=λe=>SG (nk (by show SD.toNat=75;omega))
  rw[gP];unfold f81;generalize R (d+5)=rr,s.size=ss at*;simp[F,Sx,w1,Sv,SA,Sw,SC,SB,c3,SE,st,ld,rC,rT,aD,a8,gz,bD]
 have c3:(SD.toNat:Int)=75:=by rw[SG];rfl
 rw[c3]at SB
 have q:dS bs=match fR (bs.take (bs.length-4)) 4 2 with
  |none=>none
  |some (ns,at_)=>match Mz ns ((bs.take (bs.length-4)).drop at_)with
   |none=>none
   |some g=>if gL g=true/\dz g=bs/\bs.length<=4000 then some g else none:=by
  unfold dS;rw[ae (by rw[SQ,SF,SG];simp;omega)];rfl
 obtain⟨s5,SJ⟩:=aZ (O.push (.K true (sj [])));have X:aE O (a6 [.int .u64 0,.int .u64 0,.int .u64 0,.int .u64 0])=some (Z (.ptr O.size 0),s5):=by rw[SJ];rfl
 have g5:Gr O s5:=by rw[SJ];exact Gr.push g1.wf _
 have b5:s5.get O.size=some (.K true (sj [])):=by rw[SJ];exact St.ec
 have z5:s5.size=O.size+1:=by rw[SJ];simp
 obtain⟨s6,z6,S0,k6,t6,H⟩:=Hf (A:=O.size) (P:=s.size) (d+4) g5.wf (rb (g1.trans g5)) hl (by omega) b5 (g5.get b1 g1.wf) (by omega) (λc u=>by have:=SP c u;omega);have g6:Gr s s6:=⟨S0,by omega,λc u=>by rw[k6 c (by omega) (by omega),(g1.trans g5).2.2 c u]⟩;have eE:((bs.length-4:Nat):Int)=(bs.length:Int)-4:=by omega
 rw[eE]at H;cases hg:fR (bs.take (bs.length-4)) 4 2 with
 |none=>
  rw[hg]at H q;dsimp only at H q;rw[q];refine⟨.av,.av,s6,?_,g6⟩;rw[gP];unfold f81;simp only[aH,Nat.reduceAdd]at H;generalize R (d+5)=rr,s.size=ss,O.size=Ta at*;simp[F,Sx,w1,Sv,SA,Sw,SC,SB,X,H,gz]
 |some o=>
  obtain⟨ns,e⟩:=o;rw[hg]at H q;dsimp only at H q;obtain⟨lp,hA,S5,S4⟩:=H
  obtain⟨n0,n1,n2,n3,rfl⟩:∃n0 n1 n2 n3,ns=[n0,n1,n2,n3]:=by
   match ns,S5 with
   | [n0,n1,n2,n3],_=>exact⟨n0,n1,n2,n3,rfl⟩
  have SI:=Bp _ _ _ hg;have L0:=SI n0 (by simp);have L1:=SI n1 (by simp);have L2:=SI n2 (by simp);have L3:=SI n3 (by simp);have x0:aa (Z (.ptr O.size 0)) s6.get=some (J6 (n0:Nat)):=ag hA rfl;have x1:aa (Z (.ptr O.size 1)) s6.get=some (J6 (n1:Nat)):=ag hA rfl;have x2:aa (Z (.ptr O.size 2)) s6.get=some (J6 (n2:Nat)):=ag hA rfl;have x3:aa (Z (.ptr O.size 3)) s6.get=some (J6 (n3:Nat)):=ag hA rfl;have y0:bz 4 1 (Z (.ptr O.size 0)) (J 0)=some (Z (.ptr O.size 0)):=rfl;have y1:bz 4 1 (Z (.ptr O.size 0)) (J 1)=some (Z (.ptr O.size 1)):=rfl;have y2:bz 4 1 (Z (.ptr O.size 0)) (J 2)=some (Z (.ptr O.size 2)):=rfl;have y3:bz 4 1 (Z (.ptr O.size 0)) (J 3)=some (Z (.ptr O.size 3)):=rfl;have cv:∀n:Nat,n<=2199023255552->az .i64 (J6 (n:Nat))=some (J n):=λn h=>by rw[aY,fJ _ (by omega)]
  have v0:=cv n0 (by omega);have v1:=cv n1 (by omega);have v2:=cv n2 (by omega);have v4:=cv (n2+n3) (by omega)
  have v3:ah .add (J6 (n2:Nat)) (J6 (n3:Nat))=some (J6 ((n2+n3:Nat):Int)):=by
   rw[cw,show((n2:Nat):Int)+((n3:Nat):Int)=((n2+n3:Nat):Int) by omega,wrap64 _ (by omega)]
  have Q:((n2+n3:Nat):Int)=(n2:Int)+n3:=by omega
  obtain⟨Y,SH⟩:=aZ (⟨n0,n1,n2,(n2:Int)+n3,[],[]⟩:Sq);have Sj:aO (aA [iz,iz,iz,iz,.av,.av] [(0,1,J (n0:Nat)),(1,1,J (n1:Nat)),(2,1,J (n2:Nat)),(3,1,J ((n2+n3:Nat):Int))])=some (AQ Y .av .av):=by rw[SH,Q];rfl
  obtain⟨s7,Sk,g7,b7,z7⟩:=CQ S0;obtain⟨s8,SK⟩:=aZ (s7.set s6.size (.K true (cQ Y .av .av)));have Sl:aj 6 (Z (.ptr s6.size 0)) (AQ Y .av .av) s7=some (tt,s8):=by rw[SK];exact mS b7 rfl
  have b8:s8.get s6.size=some (.K true (cQ Y .av .av)):=by rw[SK];exact St.dh
  have g8:Gr s6 s8:=by
   rw[SK];exact⟨St.wf_set g7.wf (g7.wf.lt b7) _,by simp;omega,λc u=>by rw[St.bO (by omega)];exact g7.2.2 c u⟩
  have z8:s8.size=s7.size:=by rw[SK];simp
  have I:aa (Z (.ptr s6.size 1)) s8.get=some (J (n1:Nat)):=by
   have:aa (Z (.ptr s6.size 1)) s8.get=some (J Y.t):=ag b8 rfl;rw[SH]at this;exact this
  obtain⟨yp,pc,hy,oy⟩:=RB.piece (rb (g6.trans g8)) S4 (by omega);have SN:(bs.drop e).take (bs.length-4-e)=(bs.take (bs.length-4)).drop e:=List.drop_take.symm;rw[SN]at hy;rw[eE]at pc;obtain⟨BD,SW⟩:=aZ ((bs.take (bs.length-4)).drop e);rw[<-SW]at hy q;have SX:BD.length<=8000:=by rw[SW,fK,bb];omega
  have S9:=(g6.trans g8).2.1;obtain⟨LZ,LN⟩:=GY d g8.wf hy (PX oy λc u=>by have:=SP c u;omega) SX (n0:=n0) (n1:=n1) (n2:=n2) (n3:=n3) L1;obtain⟨o,ho⟩:=aZ (Mz [n0,n1,n2,n3] BD);rw[<-ho]at LZ LN q;clear ho;by_cases Sp:n1=0
  ·obtain⟨xx,c,s9,e9,S⟩:=LZ Sp;have I:aa (Z (.ptr s6.size 1)) s8.get=some (J 0):=by rw[Sp]at I;exact I
   have b9:=S.gr.get b8 g8.wf;obtain⟨uo,r⟩:=aZ (s9.set s6.size (.K true (cQ Y xx .av)));have y:aj 1 (Z (.ptr s6.size 4)) (Z xx) s9=some (tt,uo):=by rw[r];exact aJ b9 (by simp[cQ])
   have Sy:uo.get s6.size=some (.K true (cQ Y xx .av)):=by rw[r];exact St.dh
   have B:uo.wf:=by rw[r];exact St.wf_set S.gr.wf (S.gr.wf.lt b9) _
   have S6:uo.size=s9.size:=by rw[r];simp
   have Ss:∀c,c≠s6.size->uo.get c=s9.get c:=λc u=>by rw[r];exact St.bO u
   have l10:=j8 (m:=uo.get) Sy;obtain⟨pt,cp,pl,G,gp,hO⟩:=B1 d _ S B (λk hk ho=>Ss k (by rcases ho with h | h;have:=S.ox k h;omega;have:=S.oz k h;omega)) (by omega);rw[<-SH]at G hO;have SM:Gr s uo:=⟨B,by have:=S.gr.2.1;omega,λc u=>by rw[Ss c (by omega),S.gr.2.2 c (by omega),(g6.trans g8).2.2 c u]⟩;have D:=SM.trans gp;have SV:uo.get s.size=some (.K true cY):=by rw[Ss _ (by omega),S.gr.2.2 _ (by omega),g8.2.2 _ (by omega)];exact t6
   have Su:=gp.get SV B;obtain⟨w,st,ld,gw⟩:=err D Su;have SL:=gp.get Sy B;have SR:=j8 (m:=pt.get) SL;by_cases u:c=0
   rotate_left
   ·have N:dS bs=none:=by
     rw[q];cases o with
     |none=>rfl
     |some g=>exact absurd hO.2.1 u
    rw[N];refine⟨.av,.av,w,?_,gw⟩;rw[gP];unfold f81;simp only[aH,Nat.reduceAdd]at lp;clear Q;generalize R (d+5)=rr,((n2+n3:Nat):Int)=Sm at*;simp[F,Sx,w1,Sv,SA,Sw,SC,SB,X,lp,y0,x0,v0,y1,x1,v1,y2,x2,v2,y3,x3,v3,v4,Sj,Sk,Sl,I,pc,e9,ai,y,l10,G,u,SE,st,ld,rC,rT,aD,a8,gz,bD]
   subst u;cases o with
   |none=>exact absurd rfl hO
   |some g=>
    dsimp only at hO q;obtain⟨SO,_,E⟩:=hO;by_cases Sn:cp=0
    rotate_left
    ·have N:dS bs=none:=by
      rw[q,ae];rintro⟨SD,S1,S2⟩;rw[af ⟨SD,by rw[S1];exact S2⟩]at E;exact Sn E.1
     rw[N];refine⟨.av,.av,w,?_,gw⟩;rw[gP];unfold f81;simp only[aH,Nat.reduceAdd]at lp;clear Q;generalize R (d+5)=rr,((n2+n3:Nat):Int)=Sm at*;simp[F,Sx,w1,Sv,SA,Sw,SC,SB,X,lp,y0,x0,v0,y1,x1,v1,y2,x2,v2,y3,x3,v3,v4,Sj,Sk,Sl,I,pc,e9,ai,y,l10,G,Sn,SE,st,ld,rC,rT,aD,a8,gz,bD]
    subst Sn;by_cases U:gL g=true/\(dz g).length<=4000
    rotate_left
    ·rw[ae U]at E;exact absurd rfl E
    rw[af U]at E;have C:=qh (d+4) E.2 (rb D);by_cases he:dz g=bs
    ·have N:dS bs=some g:=(by rw[q,af ⟨U.1,he,by rw[<-he];exact U.2⟩]);rw[N];rw[aK he]at C;obtain⟨w2,Sr⟩:=aZ (pt.set s.size (.K true (cQ Y xx .av)));have SU:aj 6 (Z (.ptr s.size 0)) (AQ Y xx .av) pt=some (tt,w2):=(by rw[Sr];exact mS Su rfl);have SS:=j8 (g:=Y) (x:=xx) (z := .av) (m:=w2.get) (i:=s.size) (w:=true) (by rw[Sr];exact St.dh);have Sz:gz (some g) xx .av = .c6 [.agg (cQ Y xx .av),.s (iz)]:=by show T.c6 [V.agg (cQ g xx .av),_]=_;rw[SO]
     refine⟨xx,.av,w2,?_,by rw[Sr];exact⟨St.wf_set D.wf (D.wf.lt Su) _,by simpa using D.2.1,λc u=>by rw[St.bO (by omega)];exact D.2.2 c u⟩⟩;rw[Sz];rw[gP];unfold f81;simp only[aH,Nat.reduceAdd]at lp C;clear Q;generalize R (d+5)=rr,((n2+n3:Nat):Int)=Sm at*;simp[F,Sx,w1,Sv,SA,Sw,SC,SB,X,lp,y0,x0,v0,y1,x1,v1,y2,x2,v2,y3,x3,v3,v4,Sj,Sk,Sl,I,pc,e9,ai,y,l10,G,C,SR,SU,SS,rC,rT,aD,a8,bD]
    ·have N:dS bs=none:=(by rw[q,ae λh=>he h.2.1]);rw[N];rw[aR he]at C;refine⟨.av,.av,w,?_,gw⟩;rw[gP];unfold f81;simp only[aH,Nat.reduceAdd]at lp C;clear Q;generalize R (d+5)=rr,((n2+n3:Nat):Int)=Sm at*;simp[F,Sx,w1,Sv,SA,Sw,SC,SB,X,lp,y0,x0,v0,y1,x1,v1,y2,x2,v2,y3,x3,v3,v4,Sj,Sk,Sl,I,pc,e9,ai,y,l10,G,C,SE,st,ld,rC,rT,aD,a8,gz,bD]
  ·obtain⟨zz,c,s9,e9,S⟩:=LN Sp;have S8:¬((n1:Nat):Int)=0:=by omega
   have b9:=S.gr.get b8 g8.wf;obtain⟨uo,r⟩:=aZ (s9.set s6.size (.K true (cQ Y .av zz)));have y:aj 1 (Z (.ptr s6.size 5)) (Z zz) s9=some (tt,uo):=by rw[r];exact aJ b9 (by simp[cQ])
   have Sy:uo.get s6.size=some (.K true (cQ Y .av zz)):=by rw[r];exact St.dh
   have B:uo.wf:=by rw[r];exact St.wf_set S.gr.wf (S.gr.wf.lt b9) _
   have S6:uo.size=s9.size:=by rw[r];simp
   have Ss:∀c,c≠s6.size->uo.get c=s9.get c:=λc u=>by rw[r];exact St.bO u
   have l10:=j8 (m:=uo.get) Sy;obtain⟨pt,cp,pl,G,gp,hO⟩:=B1 d _ S B (λk hk ho=>Ss k (by rcases ho with h | h;have:=S.ox k h;omega;have:=S.oz k h;omega)) (by omega);rw[<-SH]at G hO;have SM:Gr s uo:=⟨B,by have:=S.gr.2.1;omega,λc u=>by rw[Ss c (by omega),S.gr.2.2 c (by omega),(g6.trans g8).2.2 c u]⟩;have D:=SM.trans gp;have SV:uo.get s.size=some (.K true cY):=by rw[Ss _ (by omega),S.gr.2.2 _ (by omega),g8.2.2 _ (by omega)];exact t6
   have Su:=gp.get SV B;obtain⟨w,st,ld,gw⟩:=err D Su;have SL:=gp.get Sy B;have SR:=j8 (m:=pt.get) SL;by_cases u:c=0
   rotate_left
   ·have N:dS bs=none:=by
     rw[q];cases o with
     |none=>rfl
     |some g=>exact absurd hO.2.1 u
    rw[N];refine⟨.av,.av,w,?_,gw⟩;rw[gP];unfold f81;simp only[aH,Nat.reduceAdd]at lp;clear Q;generalize R (d+5)=rr,((n2+n3:Nat):Int)=Sm at*;simp[F,Sx,w1,Sv,SA,Sw,SC,SB,X,lp,y0,x0,v0,y1,x1,v1,y2,x2,v2,y3,x3,v3,v4,Sj,Sk,Sl,I,Sp,pc,e9,ai,y,l10,G,u,SE,st,ld,rC,rT,aD,a8,gz,bD]
   subst u;cases o with
   |none=>exact absurd rfl hO
   |some g=>
    dsimp only at hO q;obtain⟨SO,_,E⟩:=hO;by_cases Sn:cp=0
    rotate_left
    ·have N:dS bs=none:=by
      rw[q,ae];rintro⟨SD,S1,S2⟩;rw[af ⟨SD,by rw[S1];exact S2⟩]at E;exact Sn E.1
     rw[N];refine⟨.av,.av,w,?_,gw⟩;rw[gP];unfold f81;simp only[aH,Nat.reduceAdd]at lp;clear Q;generalize R (d+5)=rr,((n2+n3:Nat):Int)=Sm at*;simp[F,Sx,w1,Sv,SA,Sw,SC,SB,X,lp,y0,x0,v0,y1,x1,v1,y2,x2,v2,y3,x3,v3,v4,Sj,Sk,Sl,I,Sp,pc,e9,ai,y,l10,G,Sn,SE,st,ld,rC,rT,aD,a8,gz,bD]
    subst Sn;by_cases U:gL g=true/\(dz g).length<=4000
    rotate_left
    ·rw[ae U]at E;exact absurd rfl E
    rw[af U]at E;have C:=qh (d+4) E.2 (rb D);by_cases he:dz g=bs
    ·have N:dS bs=some g:=(by rw[q,af ⟨U.1,he,by rw[<-he];exact U.2⟩]);rw[N];rw[aK he]at C;obtain⟨w2,Sr⟩:=aZ (pt.set s.size (.K true (cQ Y .av zz)));have SU:aj 6 (Z (.ptr s.size 0)) (AQ Y .av zz) pt=some (tt,w2):=(by rw[Sr];exact mS Su rfl);have SS:=j8 (g:=Y) (x := .av) (z:=zz) (m:=w2.get) (i:=s.size) (w:=true) (by rw[Sr];exact St.dh);have Sz:gz (some g) .av zz = .c6 [.agg (cQ Y .av zz),.s (iz)]:=by show T.c6 [V.agg (cQ g .av zz),_]=_;rw[SO]
     refine⟨.av,zz,w2,?_,by rw[Sr];exact⟨St.wf_set D.wf (D.wf.lt Su) _,by simpa using D.2.1,λc u=>by rw[St.bO (by omega)];exact D.2.2 c u⟩⟩;rw[Sz];rw[gP];unfold f81;simp only[aH,Nat.reduceAdd]at lp C;clear Q;generalize R (d+5)=rr,((n2+n3:Nat):Int)=Sm at*;simp[F,Sx,w1,Sv,SA,Sw,SC,SB,X,lp,y0,x0,v0,y1,x1,v1,y2,x2,v2,y3,x3,v3,v4,Sj,Sk,Sl,I,Sp,pc,e9,ai,y,l10,G,C,SR,SU,SS,rC,rT,aD,a8,bD]
    ·have N:dS bs=none:=(by rw[q,ae λh=>he h.2.1]);rw[N];rw[aR he]at C;refine⟨.av,.av,w,?_,gw⟩;rw[gP];unfold f81;simp only[aH,Nat.reduceAdd]at lp C;clear Q;generalize R (d+5)=rr,((n2+n3:Nat):Int)=Sm at*;simp[F,Sx,w1,Sv,SA,Sw,SC,SB,X,lp,y0,x0,v0,y1,x1,v1,y2,x2,v2,y3,x3,v3,v4,Sj,Sk,Sl,I,Sp,pc,e9,ai,y,l10,G,C,SE,st,ld,rC,rT,aD,a8,gz,bD]
end
def o8(g:Sq):eG:=⟨g.i,g.t,g.f,g.o,(cB 1 (bP g):Nat)⟩
def P0(o:Option Sq):T:=match o with
 |some g => .c6 [.agg (cI (o8 g)),.s (iz)]
 |none => .c6 [.agg [iz,iz,iz,iz,.int .u32 0],.s (.int .i64 2)]
theorem qH{bs:Bs}{g:Sq}(h:dS bs=some g):gL g=true/\dz g=bs/\bs.length<=4000:=by
 unfold dS at h;split at h
 ·cases h
 ·split at h
  ·cases h
  ·split at h
   ·cases h
   ·split at h
    ·rename_i a;cases h;exact a
    ·cases h
section
variable {s t u s0:St}{x y z b bx lx:S}{bs:Bs}{p A P M:Nat}{g:Sq}{ns:List Nat}
theorem Ls(d:Nat)(SF:s.wf)(Su:RB s bx bs)(H:∀c,own bx=some c->c<s.size)(hq:dS bs=some g):∃t,R (d+7) 77 [Z bx] s=some (.c6 [.agg (cI (o8 g)),.s (iz)],t)/\Gr s t:=by
 obtain⟨SJ,u,h4⟩:=qH hq;have Sl:bs.length=(bP g).length+4:=by rw[<-u];simp[dz,four]
 have Sk:(bP g).length<=4000:=by omega
 obtain⟨s1,Sm,Y,b1,z1⟩:=CR SF;have rb:∀{v:St},Gr s v->RB v bx bs:=λgg=>Rd.gr Su H gg
 obtain⟨xx,zz,q,X,r⟩:=B2 d Y.wf (rb Y) (λc w=>by have:=H c w;omega) (by omega);rw[hq]at X;simp only[gz]at X;obtain⟨s3,Sn,g3,b3,z3⟩:=CQ r.wf;obtain⟨s4,h⟩:=aZ (s3.set q.size (.K true (cQ g xx zz)));have Sr:aj 6 (Z (.ptr q.size 0)) (AQ g xx zz) s3=some (tt,s4):=by rw[h];exact mS b3 rfl
 have T:s4.get q.size=some (.K true (cQ g xx zz)):=by rw[h];exact St.dh
 have SH:=r.2.1;have k4:∀c,c<q.size->s4.get c=q.get c:=λc w=>by rw[h,St.bO (by omega)];exact g3.2.2 c w
 have C:s4.wf:=by rw[h];exact St.wf_set g3.wf (g3.wf.lt b3) _
 have z4:s4.size=s3.size:=by rw[h];simp
 have g4:Gr s s4:=⟨C,by omega,λc w=>by rw[k4 c (by omega),r.2.2 c (by omega),Y.2.2 c w]⟩;have Sx:s4.get s.size=some (.K true [iz,iz,iz,iz,.int .u32 0]):=by rw[k4 _ (by omega),r.2.2 _ (by omega)];exact b1
 have SE:=Su.lens;have w1:IntKind.i64.wrap ((bs.length:Int)-4)=((bP g).length:Int):=by rw[aw _ (by omega) (by omega)];omega
 obtain⟨yp,pc,D,oy⟩:=RB.pS (rb g4) (lo:=(bP g).length) (by omega);have E:bs.drop (bP g).length=four (cB 1 (bP g)):=by rw[<-u];unfold dz;rw[List.drop_left]
 rw[E]at D;obtain⟨S,hS⟩:=aZ (cB 1 (bP g));have Sj:S<4294967291:=by rw[hS];exact q8 (bP g) 1 (by decide)
 rw[<-hS]at D;obtain⟨p0,SC,Sv⟩:=RB.H9 D (n:=0) (j:=0) (c:=UInt8.ofNat S) rfl rfl;obtain⟨p1,SD,Sw⟩:=RB.H9 D (n:=1) (j:=1) (c:=UInt8.ofNat (S / 256)) rfl rfl;obtain⟨SK,i2,l2⟩:=RB.H9 D (n:=2) (j:=2) (c:=UInt8.ofNat (S / 65536)) rfl rfl;obtain⟨p3,i3,l3⟩:=RB.H9 D (n:=3) (j:=3) (c:=UInt8.ofNat (S / 16777216)) rfl rfl;rw[ey]at Sv Sw l2 l3;have q0:aa (Z (.ptr q.size 0)) s4.get=some (J g.i):=ag T rfl;have q1:aa (Z (.ptr q.size 1)) s4.get=some (J g.t):=ag T rfl;have q2:aa (Z (.ptr q.size 2)) s4.get=some (J g.f):=ag T rfl;have q3:aa (Z (.ptr q.size 3)) s4.get=some (J g.o):=ag T rfl;have k:=GI (n:=S) (by omega);have k0:=di S (show 0<256 by decide);have k1:=di (S / 256) (show 0<256 by decide);have k2:=di (S / 65536) (show 0<256 by decide);have k3:=di (S / 16777216) (show 0<256 by decide);generalize S%256=a0,S / 256%256=N,S / 65536%256=O,S / 16777216%256=Q at*;have Sz:az .u32 (J8 (a0:Nat))=some (I .u32 (a0:Nat)):=by rw[aY,wrap32,eU (by omega)]
 have SA:az .u32 (J8 (N:Nat))=some (I .u32 (N:Nat)):=by rw[aY,wrap32,eU (by omega)]
 have SB:az .u32 (J8 (O:Nat))=some (I .u32 (O:Nat)):=by rw[aY,wrap32,eU (by omega)]
 have c3:az .u32 (J8 (Q:Nat))=some (I .u32 (Q:Nat)):=by rw[aY,wrap32,eU (by omega)]
 obtain⟨e1,x⟩:∃e,e=N*2 ^ 8:=⟨_,rfl⟩;obtain⟨Q6,y⟩:∃e,e=O*2 ^ 16:=⟨_,rfl⟩;obtain⟨e3,z⟩:∃e,e=Q*2 ^ 24:=⟨_,rfl⟩;have h1:ah .shl (I .u32 (N:Nat)) (J6 8)=some (I .u32 (e1:Nat)):=by rw[x];exact zB _ 8 (by omega) (by decide)
 have h2:ah .shl (I .u32 (O:Nat)) (J6 16)=some (I .u32 (Q6:Nat)):=by rw[y];exact zB _ 16 (by omega) (by decide)
 have h3:ah .shl (I .u32 (Q:Nat)) (J6 24)=some (I .u32 (e3:Nat)):=by rw[z];exact zB _ 24 (by omega) (by decide)
 rw[<-x,<-y,<-z]at k;have r1:=Dt a0 e1 (by omega) (by omega);have U:a0 ||| e1<2 ^ 32:=lN (by omega) (by omega)
 obtain⟨Sp,F⟩:∃o,o=a0 ||| e1:=⟨_,rfl⟩
 rw[<-F]at r1 U k;have r2:=Dt Sp Q6 U (by omega);have m2:Sp ||| Q6<2 ^ 32:=lN U (by omega)
 obtain⟨o2,G⟩:∃o,o=Sp ||| Q6:=⟨_,rfl⟩
 rw[<-G]at r2 m2 k;have r3:=Dt o2 e3 m2 (by omega);rw[k]at r3
 have Sy:aO (aA [iz,iz,iz,iz,.int .u32 0] [(0,1,J g.i),(1,1,J g.t),(2,1,J g.f),(3,1,J g.o),(4,1,I .u32 (S:Nat))])=some (AI (o8 g)):=by
  rw[hS];rfl
 obtain⟨V,B⟩:=aZ (s4.set s.size (.K true (cI (o8 g))));have Ss:aj 5 (Z (.ptr s.size 0)) (AI (o8 g)) s4=some (tt,V):=by rw[B];exact p2 Sx rfl
 have l5:=tg (m:=V.get) (by rw[B];exact St.dh:V.get s.size=some (.K true (cI (o8 g))));refine⟨V,?_,?_⟩
 ·rw[EN];unfold f77;clear Sj U m2 E Sk Sl k F G x y z k0 k1 k2 k3;generalize R (d+6)=rr,((bP g).length:Int)=BL,q.size=SI,s.size=SG at*;simp[Sm,X,ai,Sn,Sr,SE,w1,pc,q0,q1,q2,q3,SC,Sv,Sz,SD,Sw,SA,h1,r1,i2,l2,SB,h2,r2,i3,l3,c3,h3,r3,Sy,Ss,l5,rC,rT,aD,a8]
 ·rw[B];exact⟨St.wf_set C (C.lt Sx) _,by simpa using g4.2.1,λc w=>by rw[St.bO (by omega)];exact g4.2.2 c w⟩
def Cw:List S:=[iz,iz,iz,iz,.int .u32 0]
theorem Lr(d:Nat)(I:s.wf)(D:RB s bx bs)(g:∀c,own bx=some c->c<s.size)(E:bs.length<=8000)(F:dS bs=none):∃t,R (d+7) 77 [Z bx] s=some (.c6 [.agg Cw,.s (.int .i64 2)],t)/\Gr s t:=by
 obtain⟨M,o,l,B,z1⟩:=CR I;have H:∀{v:St},Gr s v->RB v bx bs:=λC=>Rd.gr D g C
 obtain⟨N,Q,i,k,h⟩:=B2 d l.wf (H l) (λc b=>by have:=g c b;omega) E;rw[F]at k;simp only[gz]at k;obtain⟨q,p,n,w,O⟩:=CQ h.wf;obtain⟨s4,a⟩:=aZ (q.set i.size (.K true cY));have r:aj 6 (Z (.ptr i.size 0)) (.v (.agg cY)) q=some (tt,s4):=by rw[a];exact q6 w rfl
 have J:=h.2.1;have y:∀c,c<i.size->s4.get c=i.get c:=λc b=>by rw[a,St.bO (by omega)];exact n.2.2 c b
 have f:s4.wf:=by rw[a];exact St.wf_set n.wf (n.wf.lt w) _
 have P:s4.size=q.size:=by rw[a];simp
 have x:Gr s s4:=⟨f,by omega,λc b=>by rw[y c (by omega),h.2.2 c (by omega),l.2.2 c b]⟩;have z:s4.get s.size=some (.K true Cw):=by rw[y _ (by omega),h.2.2 _ (by omega)];exact B
 have A:aO (aA [iz,iz,iz,iz,.int .u32 0] [])=some (AI ⟨0,0,0,0,0⟩):=rfl;obtain⟨j,e⟩:=aZ (s4.set s.size (.K true (cI ⟨0,0,0,0,0⟩)));have u:aj 5 (Z (.ptr s.size 0)) (AI ⟨0,0,0,0,0⟩) s4=some (tt,j):=by rw[e];exact p2 z rfl
 have G:=tg (m:=j.get) (by rw[e];exact St.dh:j.get s.size=some (.K true (cI ⟨0,0,0,0,0⟩)));refine⟨j,?_,?_⟩
 ·rw[EN];unfold f77;generalize R (d+6)=L at*;simp[o,k,ai,p,r,A,u,G,rC,rT,aD,a8];rfl
 ·rw[e];exact⟨St.wf_set f (f.lt z) _,by simpa using x.2.1,λc b=>by rw[St.bO (by omega)];exact x.2.2 c b⟩
end
def Cz(other:Bs)(vs:List FV):Prop:=(∀v∈vs,v.nm=fF\/v.nm=bp 1)/\∃v∈vs,v.nm=bp 1/\v.l=U other
def dN(other:Bs)(a:eG):Bool:=decide (a.i=1)&&(match dS other with
 |some g=>decide (o8 g=a)
 |none=>false)
section
variable {ρ ρ':Nat->Nat}{s t:St}{D:w9}{room:Int}{fs fs':List Fl}{l:List bM}{q:gJ}{sure:Nat}{i m n:Nat}{e:bM}{y z bx:S}{xs:List S}{ls:List eG}{other:Bs}{a:eG}
theorem E6(h:Cz other (ib fs)){nm:Bs}(c:nm≠fF)(d:nm≠bp 1):∀f∈fs,f.nm≠nm:=λf g e=>by
 rcases h.1 (vw f) (gX g)with h3 | h3
 ·exact c (e ▸ h3)
 ·exact d (e ▸ h3)
theorem H5(d:Nat)(h:bU ρ s D room fs l q sure)(hv:Cz other (ib fs))(h1:1<=a.i)(h2:a.i<=1073741824)(Sl:other.length<=8000)(ht:jb s):∃t,R (d+8) 51 [Z (.ptr D.i 0),AI a] s=some (B (dN other a),t)/\Gr s t:=by
 obtain⟨k,hk⟩:∃k:Nat,a.i=(k:Int):=⟨a.i.toNat,by omega⟩;obtain⟨s1,G⟩:=aZ (s.push (.K true (cI a)));have H:aE s (b6 (AI a))=some (Z (.ptr s.size 0),s1):=by rw[G];rfl
 have z:Gr s s1:=by rw[G];exact Gr.push h.nE _
 have b1:s1.get s.size=some (.K true (cI a)):=by rw[G];exact St.ec
 have T:aa (Z (.ptr s.size 0)) s1.get=some (J k):=by rw[<-hk];exact ag b1 rfl
 have C:=h.gr z;rw[Nq];unfold f51 dN;by_cases F:k=1
 rotate_left
 ·have hd:¬a.i=1:=by omega
  rw[aR hd,gh]
  have Ss:∃(nm:Bs) (c:Int) (s3:St),R (d+7) 69 [J k] s1=some (Z (.str nm),s1)/\R (d+7) 42 [Z (.ptr D.i 0),Z (.str nm)] s1=some (.c6 [.s .av,.s (.int .i64 c)],s3)/\¬c=0/\Gr s1 s3:=by
   by_cases E:k<=64
   ·have Sj:bp k≠bp 1:=λe=>F (xJ ⟨by omega,E⟩ ⟨by omega,by omega⟩ e)
    exact⟨bp k,9,s1,BJ (d+6) (by omega) E,vb (d+4) C.dk (E6 hv (kT k) Sj) (nW (by omega) E),by decide,Gr.refl z.wf⟩
   ·have Sk:=E6 hv (sg k) λe=>F (xL e)
    obtain⟨c,s3,Q,o,r⟩:=Lx (n:=k) d C.dk Sk (by omega)
    have Sm:jb s1:=by
     show s1.get 0=_
     rw[z.2.2 0 (h.nE.lt ht)];exact ht
    exact⟨cO k,c,s3,K0 (d+5) Sm (by omega) (by omega),Q,o,r⟩
  obtain⟨nm,c,s3,O,Q,o,r⟩:=Ss;refine⟨s3,?_,z.trans r⟩;generalize R (d+7)=rr at*;simp[H,T,O,Q,ai,o]
 ·subst F;have hd:a.i=1:=by omega
  rw[aK hd,dX];obtain⟨v,Sp,Sr,Sn⟩:=hv.2;have O:=BJ (s:=s1) (d+6) (k:=1) (by omega) (by omega);obtain⟨y,s3,Q,r,r3,o3⟩:=xy (d+4) C (nW (k:=1) (by omega) (by omega)) Sp Sr Sn;obtain⟨Su,u,w,N,z5⟩:=CR r.wf;cases hq:dS other with
  |some g=>
   obtain⟨x,X,S⟩:=Ls d r.wf r3 (λc o=>(o3 c o).2) hq;obtain⟨U,u,w,N,z5⟩:=CR S.wf;obtain⟨s6,j⟩:=aZ (U.set x.size (.K true (cI (o8 g))));have I:aj 5 (Z (.ptr x.size 0)) (AI (o8 g)) U=some (tt,s6):=by rw[j];exact p2 N rfl
   have l6:=tg (m:=s6.get) (by rw[j];exact St.dh:s6.get x.size=some (.K true (cI (o8 g))))
   have Y:Gr x s6:=by
    rw[j];exact⟨St.wf_set w.wf (w.wf.lt N) _,by simp;omega,λc o=>by rw[St.bO (by omega)];exact w.2.2 c o⟩
   have V:=(r.trans S).trans Y;have l7:=tg (m:=s6.get) (V.get b1 z.wf);have eq:=Rx (o8 g) a;refine⟨s6,?_,z.trans V⟩;dsimp only;generalize R (d+7)=rr at*;have k1:((1:Nat):Int)=1:=rfl;rw[k1]at T O;simp[H,T,O,Q,ai,X,u,I,l6,l7,eq]
  |none=>
   obtain⟨x,X,S⟩:=Lr d r.wf r3 (λc o=>(o3 c o).2) Sl hq;obtain⟨U,u,w,N,z5⟩:=CR S.wf;obtain⟨s6,j⟩:=aZ (U.set x.size (.K true (cI ⟨0,0,0,0,0⟩)));have I:aj 5 (Z (.ptr x.size 0)) (.v (.agg Cw)) U=some (tt,s6):=by rw[j];exact p2 (a:=⟨0,0,0,0,0⟩) N rfl
   have Y:Gr x s6:=by
    rw[j];exact⟨St.wf_set w.wf (w.wf.lt N) _,by simp;omega,λc o=>by rw[St.bO (by omega)];exact w.2.2 c o⟩
   have V:=(r.trans S).trans Y;refine⟨s6,?_,z.trans V⟩;dsimp only;generalize R (d+7)=rr at*;have k1:((1:Nat):Int)=1:=rfl;rw[k1]at T O;simp[H,T,O,Q,ai,X,u,I,bD]
theorem D3(d:Nat)(h:bU ρ s D room fs l q sure)(I:Rd 5 s z ls.length (cells cI ls))(o:∀c,own z=some c->c<s.size)(G:ls.length<=8000)(r:s.get n=some (.K true [.ptr D.i 0]))(H:Cz other (ib fs))(w:∀a∈ls,1<=a.i/\a.i<=1073741824)(k:other.length<=8000)(y:jb s) :
 ∃t,R (d+11) 49 [Z z,Z (.jX 50 [(n,0)])] s=some (B (ls.any λa => !dN other a),t)/\Gr s t:=by
 refine yy (d+9) (P:=λa => !dN other a) h.nE I o G (f:=50) (by kernel_rfl) (n:=n) λa x u g => ?_
 have A:=h.gr g;obtain⟨s1,b⟩:=aZ (u.push (.K true (cI a)));have v:aE u (b6 (AI a))=some (Z (.ptr u.size 0),s1):=by rw[b];rfl
 have e:Gr u s1:=by rw[b];exact Gr.push A.nE _
 have C:s1.get u.size=some (.K true (cI a)):=by rw[b];exact St.ec
 have J:=tg (m:=s1.get) C;have j:aa (Z (.ptr n 0)) s1.get=some (Z (.ptr D.i 0)):=ag ((g.trans e).get r h.nE) rfl
 have p:jb s1:=by
  show s1.get 0=_
  rw[(g.trans e).2.2 0 (h.nE.lt y)];exact y
 obtain⟨L,E,F⟩:=H5 d (A.gr e) H (w a x).1 (w a x).2 k p;refine⟨L,?_,e.trans F⟩;rw[Np];unfold f50;generalize R (d+8)=M at*;simp[v,j,J,E]
end
section
variable {ρ ρ':Nat->Nat}{s t:St}{D:w9}{room:Int}{fs fs':List Fl}{l es ik:List bM}{q:gJ}{sure:Nat}{i m:Nat}{e:bM}{y:S}{v0 v1:T}{bs other:Bs}
theorem H7(d:Nat)(hd:Dk s i m room fs)(ho:O6 (ib fs) bs)(hv:Cz other (ib fs))(TO:fs.length<=1000)(Tt:ρ i=0)(Tu:ρ m=0)(S1:∀f∈fs,ρ f.fb=0/\∀c,own f.x=some c->ρ c=0)(Ts:7<=ρ 0)(ht:jb s)(Tp:other.length<=8000)(Tk:bs.length<=7900)
 {N N0:Nat} (Tm:fV bs=(ik,N0)) (hE:es=ik.take (l4 j4 ik)) (hQ:q=wE j4 ik) (hN:N=(bj es).length) (Tj:N<=bs.length) (hw:∀e∈ik,nI e) (hl:ik.length<=2000) :
 (q.l.all (dN other)=true->∃ρ' D fs' t,R (d+13) 14 [Z (.ptr i 0)] s=some (.c6 [.s (.ptr D.p 0),.s (iz)],t)/\bU ρ' t D room fs' es q es.length/\ib fs'=Ld q.l N (ib fs)/\(D.i=i/\D.m=m)/\K7 ρ ρ' s t) ∧
 (q.l.all (dN other)=false->∃t,R (d+13) 14 [Z (.ptr i 0)] s=some (.c6 [.s .c9,.s (.int .i64 2)],t)/\t.wf/\s.size<=t.size/\∀c,c<s.size->7<=ρ c->t.get c=s.get c):=by
 have SU:=hd.wf.lt ht;have TP:es.length<=2000:=by rw[hE,bb];omega
 have To:Et (ib fs):=λv Tv=>by
  rcases hv.1 v Tv with e | e
  ·exact .inl e
  ·exact .inr ⟨1,by omega,by omega,e⟩
 obtain⟨d1,d2,d3⟩:=hd.Cx;obtain⟨n,hn⟩:=aZ (s.size);obtain⟨s1,Sv⟩:=aZ (s.push (.K true [.ptr i 0]));have S6:aE s (b6 (Z (.ptr i 0)))=some (Z (.ptr n 0),s1):=by rw[Sv,hn];rfl
 have g1:Gr s s1:=by rw[Sv];exact Gr.push hd.wf _
 have b1:s1.get n=some (.K true [.ptr i 0]):=by rw[Sv,hn];exact St.ec
 have TF:aa (Z (.ptr n 0)) s1.get=some (Z (.ptr i 0)):=ag b1 rfl;have z1:s1.size=s.size+1:=by rw[Sv];simp
 have np:lu .p (Z (.ptr i 0)) (Z .c9)=some (B false):=rfl;obtain⟨b,mp,s3,e3,H3⟩:=Gi (d+10) g1.wf;have g3:Gr s1 s3:=H3.Sd;have z3:=g3.2.1;have TM:s1.size<=b:=nf λh=>H3.hb h trivial
 have TQ:s1.size<=mp:=nf λh=>H3.hm h trivial
 have TN:=g3.wf.lt H3.st;have TR:=g3.wf.lt H3.Dm;have Tl:=H3.bm;obtain⟨p,hp⟩:=aZ (s3.size);obtain⟨s4,Sw⟩:=aZ (s3.push (.K true (AM i b .av .av 0)));have SN:aO (aA [.c9,.av,.av,.c9,iz] [(0,1,Z (.ptr i 0)),(3,1,Z (.ptr b 0))])=some (.v (.agg (AM i b .av .av 0))):=rfl;have S7:aE s3 (b6 (.v (.agg (AM i b .av .av 0))))=some (Z (.ptr p 0),s4):=by rw[Sw,hp];rfl
 have g4:Gr s3 s4:=by rw[Sw];exact Gr.push g3.wf _
 have z4:s4.size=s3.size+1:=by rw[Sw];simp
 have p4:s4.get p=some (.K true (AM i b .av .av 0)):=by rw[Sw,hp];exact St.ec
 have b3:=g3.get b1 g1.wf;have b4:=g4.get b3 g3.wf
 have SP:aa (Z (.ptr n 0)) (cl 2 s3.get (wC 3 s3.size (b6 (.v (.agg (AM i b .av .av 0)))) []))=aa (Z (.ptr n 0)) s1.get:=xS b3 b1 rfl λq j b' hm=>by
  rcases qQ hm with rfl | hm
  ·omega
  ·cases hm
 have TG:aa (Z (.ptr n 0)) s4.get=some (Z (.ptr i 0)):=ag b4 rfl;have G:=(g1.trans g3).trans g4;obtain⟨S,Q⟩:=aZ (λc=>if c<s.size then ρ c else if c=p then 1 else if c=b then 2 else if c=mp then 3 else 9:Nat->Nat);have ra:∀c,c<s.size->S c=ρ c:=λc o=>by rw[Q];exact af o
 have TT:S p=1:=by rw[Q];dsimp only;rw[ae (by omega),af rfl]
 have rb:S b=2:=by rw[Q];dsimp only;rw[ae (by omega),ae (by omega),af rfl]
 have rm:S mp=3:=by rw[Q];dsimp only;rw[ae (by omega),ae (by omega),ae (bu Tl),af rfl]
 have rn:S n=9:=by rw[Q];dsimp only;rw[ae (by omega),ae (by omega),ae (by omega),ae (by omega)]
 have h4:bU S s4 ⟨p,i,m,b,mp,.av,.av,.av⟩ room fs [] j4 0:=
  ⟨hd.gr G,p4,Ow.nil 8 s4,Ow.nil 1 s4,(H3.j6 g4).re,⟨TT,rb,rm,λc o=>(by cases o),λc o=>(by cases o),λc o=>(by cases o),by rw[ra _ d1];exact Tt,by rw[ra _ d2];exact Tu,λf SW=>by rw[ra _ (d3 f SW).1];exact(S1 f SW).1,λf SW c o=>by rw[ra _ ((d3 f SW).2 c o)];exact(S1 f SW).2 c o⟩,
   rfl,λe he=>(by cases he),by simp,au _⟩
 obtain⟨y,s5,TX,e5,g5,r5,o5⟩:=GP (d+9) h4.dk ho;obtain⟨y2,s6,SQ,F6⟩:=Ho (d+1) g5.wf r5 o5 Tk;rw[Tm]at SQ F6;have z5:=g5.2.1;have z6:=F6.gr.2.1;obtain⟨Sl,Sz⟩:=aZ (λc=>if c<s4.size then S c else 9:Nat->Nat);have Sj:∀c,c<s4.size->Sl c=S c:=λc o=>by rw[Sz];exact af o
 have h6:bU Sl s6 ⟨p,i,m,b,mp,.av,.av,.av⟩ room fs [] j4 0:=((h4.R7 Sj).gr g5).gr F6.gr;have TH:=F6.rd.lens;have TJ:s6.get n=some (.K true [.ptr i 0]):=by rw[F6.gr.2.2 n (by omega),g5.2.2 n (by omega)];exact b4
 obtain⟨Sx,X,s7,SJ,h7,z7,⟨E,Y,SY⟩,Sr,k7⟩:=KP (v0:=Z (.ptr n 0)) d h6 F6.rd (λc o=>⟨(F6.new c o).2,by have:=(F6.new c o).1;rw[Sz];dsimp only;rw[ae (by omega)];decide⟩) hw hl;rw[<-hE,<-hQ]at h7;dsimp only at E Y SY SJ;have Ta:Sl n=9:=by rw[Sj n (by omega)];exact rn
 have b7:s7.get n=some (.K true [.ptr i 0]):=by rw[k7 n (by omega) (by rw[Ta];exact .inr (by decide))];exact TJ
 have l7:aa (Z (.ptr n 0)) s7.get=some (Z (.ptr i 0)):=ag b7 rfl;have SL:=h7.st;rw[E]at SL;have S8:aa (Z (.ptr p 1)) s7.get=some (Z X.lx):=ag SL rfl;have S5:=h7.le.rd.lens;have e8:=xW (d+11) (l:=es) SL h7.en.rd (au _) (by omega);rw[pV,<-hN]at e8;obtain⟨TW,TK,s8,c8,e9,h8,v8,SI⟩:=Kn (d+9) h7 mI (k0:=N) (λv hv Sn=>by rw[ho.1 v hv Sn,pe];exact Tj);obtain⟨Te,SS,s9,TY,T,h9,v9,Ty⟩:=GQ (d+9) h8 mI;rw[v8]at v9;rw[Y]at e9 T;have r:=SI.trans Ty;have z8:=SI.sz;have z9:=r.sz;have SK:Sx n=9:=by rw[Sr n (by omega)];exact Ta
 have b8:s8.get n=some (.K true [.ptr i 0]):=by rw[SI.kp n (by omega) (by rw[SK];decide)];exact b7
 have b9:s9.get n=some (.K true [.ptr i 0]):=by rw[r.kp n (by omega) (by rw[SK];decide)];exact b7
 have l8:aa (Z (.ptr n 0)) s8.get=some (Z (.ptr i 0)):=ag b8 rfl;have SM:=h9.st;rw[E]at SM;have S9:aa (Z (.ptr p 1)) s9.get=some (Z X.lx):=ag SM rfl;have H:=h9.OY (au es.length);obtain⟨Sk,C⟩:=aZ (s9.set X.p (.K true (AM X.i X.b X.lx X.ex es.length)));rw[<-C]at H;have sS:aj 1 (Z (.ptr p 4)) (J es.length) s9=some (tt,Sk):=by rw[C,E];exact aJ SM (by simp)
 have TV:Sk.size=s9.size:=by rw[C];simp
 have SC:=H.st;rw[E]at SC;have SB:aa (Z (.ptr p 3)) Sk.get=some (Z (.ptr X.b 0)):=ag SC rfl;have Tq:n≠X.p:=by rw[E];omega
 have Tf:Sk.get n=some (.K true [.ptr i 0]):=by rw[C,St.bO Tq];exact b9
 have TA:Te n=9:=by rw[r.ro n (by omega)];exact SK
 have SH:q.l.length<=8000:=by have:=(H.ok).2.1.len;have:=(H.ok).2.2;omega
 obtain⟨z,Cl,Ss,u⟩:=xz (d+10) H.hf SH;have SF:=H.k9 u.gr;have SD:=u.gr.get Tf H.nE;have TS:aa (Z (.ptr n 0)) Cl.get=some (Z (.ptr i 0)):=ag SD rfl;have TE:tJ 50 [Z (.ptr n 0)] []=some (Z (.jX 50 [(n,0)])):=rfl;have Su:∀c,own z=some c->c<Cl.size/\Sk.size<=c:=λc o=>⟨(u.new c o).2,(u.new c o).1⟩
 have Tw:Cz other (ib SS):=by
  rw[v9];obtain⟨v,S4,Sn,S3⟩:=hv.2;have hL:=kT 1
  have up:∀{g:FV->FV} {vs:List FV},(∀v,(g v).nm=v.nm)->Cz other vs->Cz other (wZ fF g vs):=by
   intro g vs hg h;obtain⟨v,S4,Sn,S3⟩:=h.2;refine⟨λw hw => ?_,v,gl.2 ⟨v,S4,by rw[ae (by rw[Sn];exact hL)]⟩,Sn,S3⟩;obtain⟨w',Tx,rfl⟩:=gl.1 hw;have:(if w'.nm=fF then g w' else w').nm=w'.nm:=by split<;>simp[hg]
   rw[this];exact h.1 w' Tx
  exact up (λ_=>rfl) (up (λ_=>rfl) hv)
 have S0:H8 q:=(H.ok).2.1
 have S2:jb Cl:=by
  have k:Cl.get 0=s.get 0:=by
   have TL:=G.2.1;have O:0<s4.size:=by omega
   have I:Sl 0=ρ 0:=by rw[Sj 0 O,ra 0 SU]
   have SG:Sx 0=ρ 0:=by rw[Sr 0 (by omega),I]
   have Sm:0≠X.p:=by rw[E];omega
   rw[u.gr.2.2 0 (by omega),C,St.bO Sm,r.kp 0 (by omega) (by omega),k7 0 (by omega) (by rw[I];exact .inr Ts),F6.gr.2.2 0 (by omega),g5.2.2 0 O,G.2.2 0 SU]
  show Cl.get 0=_
  rw[k];exact ht
 obtain⟨Tb,U,F⟩:=D3 (d+1) SF u.rd (λc o=>(Su c o).1) SH (n:=n) (by rw[Y];exact SD) Tw S0.OQ Tp S2;have Tg:=SF.gr F;have SO:=F.get SD SF.nE;have Tz:aa (Z (.ptr n 0)) Tb.get=some (Z (.ptr i 0)):=ag SO rfl;have SV:(q.l.any λa => !dN other a) = !q.l.all (dN other):=by rw[List.all_eq_not_any_not,Bool.not_not]
 rw[SV]at U;have Sy:(ik.length:Int)=(ik.length:Int):=rfl;refine⟨λV => ?_,λV => ?_⟩
 rotate_left
 ·rw[V]at U;refine⟨Tb,?_,F.wf,?_,λc o hr => ?_⟩
  ·rw[EF];unfold f14;rw[show fF=[108,111,103] from rfl]at e5 e9 T;simp only[aH,Nat.reduceAdd]at e3 e5 SQ e8 e9 T Ss U;clear Sy;generalize R (d+12)=rr at*;simp[S6,TF,np,e3,SN,S7,SP,TG,e5,ai,SQ,TH,SJ,l7,S8,S5,e8,e9,l8,T,S9,sS,SB,Ss,TE,U,aD,a8]
  ·have TC:=G.2.1;have TD:=u.gr.2.1;have TI:=F.2.1;omega
  ·have TC:=G.2.1;have O:c<s4.size:=by omega
   have I:Sl c=ρ c:=by rw[Sj c O,ra c o]
   have SG:Sx c=ρ c:=by rw[Sr c (by omega),I]
   have Sm:c≠X.p:=by rw[E];omega
   have TD:=u.gr.2.1;rw[F.2.2 c (by omega),u.gr.2.2 c (by omega),C,St.bO Sm,r.kp c (by omega) (by omega),k7 c (by omega) (by rw[I];exact .inr hr),F6.gr.2.2 c (by omega),g5.2.2 c O,G.2.2 c o]
 rw[V]at U
 have SX:∀a∈q.l,1<=a.i/\a.i<=64:=λa ha=>by
  have:=e6.1 V a ha;unfold dN at this;rw[aM]at this;have:=fL this.1;omega
 have SZ:n<Sk.size:=by omega
 have Tn:SS.length=fs.length:=by
  have:=bw List.length v9;rw[O4]at this;rw[this];simp[Cq,IK,wZ,ib]
 obtain⟨x,k,TU,TB,Td,SR,SE,lx,SA,Th,Tc,Sp⟩:=K2 (v1:=Z (.ptr p 0)) (d+9) Tg (n:=n) (by rw[Y];exact SO) (by rw[iH SZ,TA];decide) (u.rd.gr (λc o=>(Su c o).1) F) (λc o=>⟨by have:=Su c o;have:=F.2.1;omega,by rw[ED (Su c o).2];decide⟩) SH
  SX (by rw[v9];exact xM (λ_=>rfl) (xM (λ_=>rfl) To)) (by omega)
 rw[v9]at Tc;rw[Y]at SE;refine⟨Td,X,SR,TB,?_,Th,Tc,⟨Y,SY⟩,?_⟩
 ·rw[EF];unfold f14;rw[show fF=[108,111,103] from rfl]at e5 e9 T;simp only[aH,Nat.reduceAdd]at e3 e5 SQ e8 e9 T Ss U SE SA;rw[E];clear Sy;generalize R (d+12)=rr at*;simp[S6,TF,np,e3,SN,S7,SP,TG,e5,ai,SQ,TH,SJ,l7,S8,S5,e8,e9,l8,T,S9,sS,SB,Ss,TE,U,Tz,SE,lx,SA,aD,a8]
 ·have TC:=G.2.1;have TD:=u.gr.2.1;have TI:=F.2.1;have a4:=Sp.sz;refine⟨by omega,λc o => ?_,λc o hr => ?_⟩
  ·rw[Sp.ro c (by omega),iH (by omega),r.ro c (by omega),Sr c (by omega),Sj c (by omega),ra c o]
  ·have O:c<s4.size:=by omega
   have I:Sl c=ρ c:=by rw[Sj c O,ra c o]
   have SG:Sx c=ρ c:=by rw[Sr c (by omega),I]
   have Sm:c≠X.p:=by rw[E];omega
   have Ti:Te c=ρ c:=by rw[r.ro c (by omega),SG]
   rw[Sp.kp c (by omega) (by rw[iH (by omega),Ti];omega),F.2.2 c (by omega),u.gr.2.2 c (by omega),C,St.bO Sm,r.kp c (by omega) (by omega),k7 c (by omega) (by rw[I];exact .inr hr),F6.gr.2.2 c (by omega),g5.2.2 c O,G.2.2 c o]
end
theorem BH:∀a b:List bM,ff a b<=a.length/\ff a b<=b.length
 | [],b=>by simp[ff]
 |a::r,[]=>by simp[ff]
 |a::r,b::t=>by
  have:=BH r t;unfold ff;split<;>simp<;>omega
theorem Dj(a b:List bM)(k:Nat)(d:k<=a.length)(e:k<=b.length)(h:∀j,j<k->a[j]? = b[j]?):ff a b=k+ff (a.drop k) (b.drop k):=by
 induction k generalizing a b with
 |zero=>simp
 |succ k g=>
  cases a with
  |nil=>simp at d
  |cons x a=>cases b with
   |nil=>simp at e
   |cons y b=>
    have c:=h 0 (by omega);simp at c;subst c;have:=g a b (by simpa using d) (by simpa using e) λj n=>by simpa using h (j+1) (by omega)
    show(if x=x then _ else _)=_
    rw[af rfl,this,Ae,Ae];omega
section
variable {s t:St}{x y:S}{l:Bs}{i:Nat}
def cG(l:Bs):Int:=if cu l=true then(gy l:Nat)else -1
theorem H3{l:Bs}{k:Nat}(a:k<l.length):fe (l.take (k+1))=fe (l.take k)*10+(l[k].toNat-48):=by
 rw[cM,aU a,nj,sy]
theorem yx{l:Bs}{k:Nat}(b:k<l.length)(h:(l.take k).all cW=true)(a:cW l[k]=true):(l.take (k+1)).all cW=true:=by
 rw[cM,aU b,nj,Eg,h];simp[a]
theorem BL{l:Bs}{k:Nat}(b:k<l.length)(a:cW l[k]=false):l.all cW=false:=by
 rw[gE];intro h;rw[e6]at h;rw[h _ (mY b)]at a;cases a
theorem tC(d:Nat):R (d+1) 190 [Z (.str l)] s=some (J (cG l),s):=by
 rw[JT];unfold f190;by_cases h1:l.length<1
 ·have g:cG l = -1:=by unfold cG cu;rw[ae];simp;omega
  have o:(l.length:Int)<1:=by omega
  have c:aV (Z (.str l))=some (J (l.length:Int)):=rfl;rw[g];simp[c,o,bD]
 ·by_cases h2:13<l.length
  ·have g:cG l = -1:=by unfold cG cu;rw[ae];simp;omega
   have o:¬(l.length:Int)<1:=by omega
   have y:(13:Int)<(l.length:Int):=by omega
   rw[g];have c:aV (Z (.str l))=some (J (l.length:Int)):=rfl;simp[c,o,y]
  ·have o:¬(l.length:Int)<1:=by omega
   have y:¬(13:Int)<(l.length:Int):=by omega
   have c:aV (Z (.str l))=some (J (l.length:Int)):=rfl
   obtain⟨j,Sj,G,U,D⟩:=aL (f:=qy (R d) 8192) (λq v u=>∃k:Nat,q+k=l.length/\v=[Z (.str l),J ((fe (l.take k):Nat):Int),J k]/\u=s/\(l.take k).all cW=true)
    (λj u=>(j = .exit 0 [J (cG l)]\/j = .ret (J (cG l)))/\u=s) (by
    rintro q v u ⟨k,hk,rfl,rfl,z⟩;by_cases e:k<l.length
    ·have x:(k:Int)<(l.length:Int):=(by omega);have ac:=jU (bs:=l) (n:=(k:Int)) rfl (aU e);have T:=l[k].toNat_lt;cases r:cW l[k]with
     |true=>
      left;have F:=l8.1 r;have B:=rj k (l.take k) (by rw[bb];omega) z;have S:10 ^ k<=10 ^ 13:=ng (by omega) (by omega);have E:(10:Nat) ^ 13=10000000000000:=(by decide);have N:¬((l[k].toNat:Nat):Int)<48:=(by omega);have O:¬(57:Int)<((l[k].toNat:Nat):Int):=(by omega);have w1:IntKind.i64.wrap (((fe (l.take k):Nat):Int)*10)=((fe (l.take k)*10:Nat):Int):=by rw[aw _ (by omega) (by omega)];omega
      have X:IntKind.u8.wrap (((l[k].toNat:Nat):Int)-48)=((l[k].toNat-48:Nat):Int):=by
       have:((l[k].toNat:Nat):Int)-48=((l[k].toNat-48:Nat):Int):=(by omega);rw[this,gx,eU (by omega)]
      have Y:IntKind.i64.wrap ((l[k].toNat-48:Nat):Int)=((l[k].toNat-48:Nat):Int):=fJ _ (by omega)
      have w4:IntKind.i64.wrap (((fe (l.take k)*10:Nat):Int)+((l[k].toNat-48:Nat):Int))=((fe (l.take (k+1)):Nat):Int):=by
       rw[H3 e,aw _ (by omega) (by omega)];omega
      have w5:IntKind.i64.wrap ((k:Int)+1)=((k+1:Nat):Int):=(by rw[aw _ (by omega) (by omega)];omega);refine⟨[Z (.str l),J ((fe (l.take (k+1)):Nat):Int),J ((k+1:Nat):Int)],u,q-1,?_,by omega,k+1,by omega,rfl,rfl,yx e z r⟩;unfold qy;generalize((fe (l.take (k+1)):Nat):Int)=V1,((fe (l.take k)*10:Nat):Int)=I,((fe (l.take k):Nat):Int)=V,((l[k].toNat-48:Nat):Int)=H,((l[k].toNat:Nat):Int)=C,((k+1:Nat):Int)=K1 at*;simp[c,x,ac,N,O,w1,X,Y,w4,w5]
     |false=>
      right
      have g:cG l = -1:=by
       unfold cG cu;rw[BL e r];simp
      refine⟨.ret (J (cG l)),u,?_,(λv B=>by cases B),.inr rfl,rfl⟩;rw[g]
      have F:((l[k].toNat:Nat):Int)<48\/(¬((l[k].toNat:Nat):Int)<48/\(57:Int)<((l[k].toNat:Nat):Int)):=by
       have:¬(48<=l[k].toNat/\l[k].toNat<=57):=λh=>by rw[l8.2 h]at r;cases r
       omega
      unfold qy;generalize((fe (l.take k):Nat):Int)=V,((l[k].toNat:Nat):Int)=C at*;rcases F with h | ⟨h,Q⟩
      ·simp[c,x,ac,h,bD]
      ·simp[c,x,ac,h,Q]
    ·right;have t:k=l.length:=by omega
     have g:cG l=((fe l:Nat):Int):=by
      rw[t,dE]at z;have w:cu l=true:=(by unfold cu;rw[z];simp;omega);unfold cG gy;rw[af w,w]
     have x:¬(k:Int)<(l.length:Int):=(by omega);refine⟨.exit 0 [J (cG l)],u,?_,(λv B=>by cases B),.inl rfl,rfl⟩;rw[g,t,dE];unfold qy;simp[c]) 8192 l.length [Z (.str l),J 0,J 0] s ⟨0,rfl,rfl,rfl,by simp⟩ (by omega)
   subst D;rcases U with rfl | rfl
   ·simp[c,o,y,G]
   ·simp[c,o,y,G]
theorem DN(d:Nat)(a:s.wf):∃x t,R (d+1) 191 [] s=some (Z x,t)/\FT s t x dA:=by
 rw[JU];unfold f191;refine⟨.sl s.size 0 4 (.known 4),s.push (.K true (c8 dA)),?_,Fr.lit 1 a rfl⟩;simp[aE,aN,aA,V.cells,aQ,c8,dA]
def flush(a:Bs)(r:List Bs):List Bs:=if a=[]then r else a::r
def mU:Bs->Bs->List Bs
 | [],c=>flush c []
 |b::r,c=>if b=35 then flush c []else if b=32 then flush c (mU r [])else mU r (c++[b])
theorem sD:∀(x c:Bs),mU x c=(match bL 32 (x.takeWhile λb => !Nat.beq b.toNat (35:UInt8).toNat)with | []=>[] | h::t=>((c++h)::t).filter λw => !decide (w=[]))
 | [],c=>by
   simp[mU,bL,flush];by_cases h:c=[]<;>simp[h]
 |b::r,c=>by
  unfold mU;by_cases e:b=35
  ·subst e;simp[bL,flush,List.takeWhile];by_cases h:c=[]<;>simp[h]
  ·have n:(!Nat.beq b.toNat (35:UInt8).toNat)=true:=by
    simp only[ku];rw[gE];exact λh=>e (jH.1 h)
   have j:(b::r).takeWhile (λb => !Nat.beq b.toNat (35:UInt8).toNat)=b::r.takeWhile (λb => !Nat.beq b.toNat (35:UInt8).toNat):=by
    rw[jB,af n]
   rw[ae e,j,oo];by_cases d:b=32
   ·rw[af d,sD r []];have:Nat.beq b.toNat (32:UInt8).toNat=true:=jH.2 d;rw[this];simp only;cases g:bL 32 (r.takeWhile λb => !Nat.beq b.toNat (35:UInt8).toNat)with
    |nil=>
     have:=fw 32 (r.takeWhile λb => !Nat.beq b.toNat (35:UInt8).toNat);rw[g]at this;simp at this
    |cons h t=>
     simp only[lg,dD,flush];by_cases k:c=[]
     ·simp[k]
     ·simp[k]
   ·have:Nat.beq b.toNat (32:UInt8).toNat=false:=by
     rw[gE];exact λh=>d (jH.1 h)
    rw[ae d,this,sD r (c++[b])];simp only;cases g:bL 32 (r.takeWhile λb => !Nat.beq b.toNat (35:UInt8).toNat)with
    |nil=>
     have:=fw 32 (r.takeWhile λb => !Nat.beq b.toNat (35:UInt8).toNat);rw[g]at this;simp at this
    |cons h t=>simp[pK]
theorem H6(x:Bs):mU x []=bI x:=by
 rw[sD,bI];cases c:bL 32 (x.takeWhile λb => !Nat.beq b.toNat (35:UInt8).toNat)with
 |nil=>rfl
 |cons h t=>simp
end
section
variable {s t:St}{x y:S}{l:Bs}{i:Nat}
theorem Po{s0:St}{ws:List Bs}{c:Bs}(h:FT s0 s x ws)(e:ws.length<=1000000) :
 ∃x' t a,aE s (aN 1 (aA [.str []] [(0,1,Z (.str c))]))=some (Z (.sl s.size 0 1 (.known 1)),a)/\aF 1 16 (Z x) (Z (.sl s.size 0 1 (.known 1))) a=some (Z x',t)/\FT s0 t x' (ws++[c]):=by
 obtain⟨x',t,⟨a,b,d⟩,f,_⟩:=FT.lit (c:=c) h e;exact⟨x',t,a,b,d,f⟩
theorem xU{l:Bs}{a b:Nat}(h:a<=b)(k:b<=l.length):bn (Z (.str l)) (some (J a)) (some (J b)) none=some (Z (.str ((l.take b).drop a))):=by
 rw[iD rfl rfl h k,nr]
theorem Ry:gd (B false) false=some true:=rfl
theorem Rz:gd (B true) false=some false:=rfl
theorem DR(d:Nat)(Sj:s.wf)(hl:l.length<=8000):∃o t,R (d+1) 144 [Z (.str l)] s=some (Z o,t)/\FT s t o (bI l):=by
 rw[Jv];unfold f144;have m:aV (Z (.str l))=some (J (l.length:Int)):=rfl
 obtain⟨j,Sk,Y,o,W,f⟩:=aL (f:=oH (R d) 8192) (λq v u=>∃(k a:Nat) (o:S) (ws:List Bs),q+k=l.length+1/\a<=k/\k<=l.length/\v=[Z (.str l),Z o,J a,J k]/\FT s u o ws/\ws.length<=k/\ws++mU (l.drop k) ((l.take k).drop a)=bI l)
  (λj u=>∃o,j = .exit 0 [Z o]/\FT s u o (bI l)) (by
  rintro q v u ⟨k,a,o,ws,hq,K,M,rfl,f,X,p⟩;have G:(k:Int)<=(l.length:Int):=by omega
  have pc:=xU K M
  have A:(l.take k).drop a=[]↔a=k:=by
   rw[Ac,bb];omega
  have I:∀e:Bool,∃g r,(jn (br (B (decide ((a:Int)<(k:Int)))) (bd (bn (Z (.str l)) (some (J a)) (some (J k)) none) λO=>
   ax (aE u (aN 1 (aA [.str []] [(0,1,O)]))) λP s1=>
   ax (aF 1 16 (Z o) P s1) λQ s2=>nm [Z (.str l),Q,J k,B e] s2)
   (nm [Z (.str l),Z o,J k,B e] u):Option (JO×St))
   (λv3 s4=>bd (ah .add (v3.getD 2 .any) (J 1)) λT=>nm [(v3.getD 0 .any),(v3.getD 1 .any),T,(v3.getD 2 .any),(v3.getD 3 .any)] s4)
   jE jR)=some (JO.normal [Z (.str l),Z g,J ((k+1:Nat):Int),J k,B e],r)/\FT s r g (ws++flush ((l.take k).drop a) []):=λe=>by
   have w1:IntKind.i64.wrap ((k:Int)+1)=((k+1:Nat):Int):=by rw[aw _ (by omega) (by omega)];omega
   by_cases hc:a<k
   ·obtain⟨g,r,u1,n1,p1,C⟩:=Po (c:=(l.take k).drop a) f (by omega);have H:(a:Int)<(k:Int):=(by omega);refine⟨g,r,?_,by unfold flush;rw[ae (λh=>by have:=A.1 h;omega)];exact C⟩;simp only[vD,aK H,fk,pc,dt,n1,fN,p1,jk,ou,nT,nU,oa,n4,lh,gi,cw,w1]
   ·have H:¬(a:Int)<(k:Int):=(by omega);refine⟨o,u,?_,by unfold flush;rw[af (A.2 (by omega)),lg];exact f⟩;simp only[vD,aR H,iF,dt,jk,ou,nT,nU,oa,n4,lh,gi,cw,w1]
  by_cases D:k=l.length
  ·obtain⟨g,r,F,C⟩:=I true;right;refine⟨.exit 0 [Z g],r,?_,(λv N=>by cases N),g,rfl,?_⟩
   ·have E:(k:Int)=(l.length:Int):=(by omega);unfold oH;rw[<-E]at m G;simp only[ou,nT,nU,oa,n4,lh,gi,m,dt,ud,zZ,decide_true,fk,eS,bD,qC,eo,oN,F];simp
   ·rw[D,e7,mU]at p;rw[<-p];rw[D]at C;exact C
  ·have L:k<l.length:=by omega
   have E:¬(k:Int)=(l.length:Int):=by omega
   have ac:=jU (bs:=l) (n:=(k:Int)) rfl (aU L);have V:l.drop k=l[k]::l.drop (k+1):=cU L;have U:∀c:UInt8,decide (((l[k].toNat:Nat):Int)=(c.toNat:Int))=decide (l[k]=c):=λc=>decide_eq_decide.2 ⟨λh=>nk (by omega),λh=>by rw[h]⟩
   have z:=U 35;have y:=U 32;have w1:IntKind.i64.wrap ((k:Int)+1)=((k+1:Nat):Int):=by rw[aw _ (by omega) (by omega)];omega
   rw[V]at p;unfold mU at p;by_cases x:l[k]=35
   ·rw[af x]at p;rw[aK x]at z;obtain⟨g,r,F,C⟩:=I true;right;refine⟨.exit 0 [Z g],r,?_,(λv N=>by cases N),g,rfl,by rw[<-p];exact C⟩;unfold oH;have b:decide (((l[k].toNat:Nat):Int)=35)=true:=z;simp only[ou,nT,nU,oa,n4,lh,gi,m,dt,ud,aK G,fk,eS,aR E,Ry,Rz,qD,qC,ac,b,jg,eo,oN,F];simp
   ·rw[ae x]at p;rw[aR x]at z;have b:decide (((l[k].toNat:Nat):Int)=35)=false:=z
    have tk:(l.take (k+1)).drop a=(l.take k).drop a++[l[k]]:=by
     rw[cM,aU L,nj,Em (by rw[bb];omega)]
    by_cases w:l[k]=32
    ·rw[af w]at p;rw[aK w]at y;have i:decide (((l[k].toNat:Nat):Int)=32)=true:=y;obtain⟨g,r,F,C⟩:=I false;left;refine⟨[Z (.str l),Z g,J ((k+1:Nat):Int),J ((k+1:Nat):Int)],r,q-1,?_,by omega,k+1,k+1,g,ws++flush ((l.take k).drop a) [],by omega,au _,by omega,rfl,C,?_,?_⟩
     ·unfold oH;simp only[ou,nT,nU,oa,n4,lh,gi,m,dt,ud,aK G,fk,eS,aR E,Ry,Rz,qD,qC,ac,b,i,jg,eo,oN,F];simp[w1]
     ·unfold flush;split
      ·simp;omega
      ·simp;omega
     ·have:(l.take (k+1)).drop (k+1)=[]:=(by rw[Ac,bb];omega);rw[this,<-p];unfold flush;split<;>simp
    ·rw[ae w]at p;rw[aR w]at y;have i:decide (((l[k].toNat:Nat):Int)=32)=false:=y;left;refine⟨[Z (.str l),Z o,J a,J ((k+1:Nat):Int)],u,q-1,?_,by omega,k+1,a,o,ws,by omega,by omega,by omega,rfl,f,by omega,by rw[tk];exact p⟩;unfold oH;simp only[ou,nT,nU,oa,n4,lh,gi,m,dt,ud,aK G,fk,eS,aR E,Ry,Rz,qD,qC,ac,b,i,jg,eo,oN,iF];simp[w1]) 8192 (l.length+1) [Z (.str l),Z .av,J 0,J 0] s ⟨0,0,.av,[],by omega,au _,by omega,rfl,Fr.nil 1 Sj,by simp,by simpa using H6 l⟩ (by omega)
 subst W;exact⟨o,Sk,by simp[Y],f⟩
end
section
variable {s t:St}{x y:S}{l:Bs}{i:Nat}
theorem qY(d:Nat)(n:s.wf):∃t,R (d+1) 102 [] s=some (AP gM,t)/\Gr s t:=by
 rw[I5];unfold f102;have h:aO (aA [iz,iz,iz,iz] [(0,1,(J 60)),(1,1,(J 600)),(2,1,(J 6000)),(3,1,(J 0))])=some (.v (.agg [.int .i64 60,.int .i64 600,.int .i64 6000,iz])):=rfl;have i:aO (aA [iz,iz,iz,iz,iz,iz] [(0,4,.v (.agg [.int .i64 60,.int .i64 600,.int .i64 6000,iz])),(4,1,(J 8)),(5,1,(J 30))])=some (AP gM):=rfl;obtain⟨e,a⟩:=aZ (s.push (.K true (cP bV)));have m:aE s (a6 [iz,iz,iz,iz,iz,iz])=some (Z (.ptr s.size 0),e):=by rw[a];rfl
 have j:e.get s.size=some (.K true (cP bV)):=by rw[a];exact St.ec
 obtain⟨f,c⟩:=aZ (e.set s.size (.K true (cP gM)));have st:=gB (p:=gM) j rfl;rw[<-c]at st;have k:f.get s.size=some (.K true (cP gM)):=by rw[c];exact St.dh
 have l:=k3 (g:=f.get) k;refine⟨f,?_,?_⟩
 ·simp[m,h,i,st,l,rC,aD]
 ·rw[c,a];exact⟨St.wf_set (St.bo n _) (by simp) _,by simp,λb o=>by rw[St.bO (by omega),St.j5 (by omega)]⟩
theorem LJ(d:Nat)(Su:s.wf)(p:kF):∃t,R (d+1) 146 [AP p] s=some (B (pQ p),t)/\Gr s t:=by
 rw[Jx];unfold f146;obtain⟨s1,U⟩:=aZ (s.push (.K true (cP p)));have nw:aE s (b6 (AP p))=some (Z (.ptr s.size 0),s1):=by rw[U];rfl
 have x:s1.get s.size=some (.K true (cP p)):=by rw[U];exact St.ec
 have g:Gr s s1:=by rw[U];exact Gr.push Su _
 have ld:∀j,j<4->aa (Z (.ptr s.size j)) s1.get=some (J (eV p j)):=λj T=>by
  match j,T with
  | 0,_=>exact ag x rfl
  | 1,_=>exact ag x rfl
  | 2,_=>exact ag x rfl
  | 3,_=>exact ag x rfl
 have I:aa (Z (.ptr s.size 4)) s1.get=some (J p.c):=ag x rfl;have N:aa (Z (.ptr s.size 5)) s1.get=some (J p.n):=ag x rfl
 have ix:∀j:Nat,j<4->bz 4 1 (Z (.ptr s.size 0)) (J (j:Nat))=some (Z (.ptr s.size j)):=λj T=>by
  match j,T with
  | 0,_=>rfl
  | 1,_=>rfl
  | 2,_=>rfl
  | 3,_=>rfl
 obtain⟨j,Sv,lp,T,Sr⟩:=aL (f:=jv (R d) 8192) (λq v u=>∃k:Nat,q+k=4/\v=[Z (.ptr s.size 0),J k]/\u=s1/\∀j,j<k->eO p j=true)
  (λj u=>(j = .exit 0 [Z (.ptr s.size 0)]/\lQ p=true\/j = .ret (B false)/\lQ p=false)/\u=s1) (by
  rintro q v u ⟨k,hk,rfl,rfl,Sk⟩;by_cases F:k<4
  ·have bad:eO p k=false->lQ p=false:=λh=>by
    rw[gE];intro h2;rw[(ml p).1 h2 k F]at h;cases h
   have next:eO p k=true->∀j,j<k+1->eO p j=true:=λh j T=>by
    by_cases e:j=k
    ·subst e;exact h
    ·exact Sk j (by omega)
   have O:(k:Int)<4:=by omega
   have w1:IntKind.i64.wrap ((k:Int)+1)=((k+1:Nat):Int):=by rw[aw _ (by omega) (by omega)];omega
   have w:=ix k F;have r:=ld k F;obtain⟨a,Y⟩:=aZ (eV p k);rw[<-Y]at r
   have o:eO p k=(jd a&&(decide (k=0)||kD (eV p (k-1)) a)):=by
    rw[Y]
    match k,F with
    | 0,_=>simp[eO,eV]
    | 1,_=>simp[eO,eV]
    | 2,_=>simp[eO,eV]
    | 3,_=>simp[eO,eV]
   have S:ab 0 (Z (.ptr s.size 0))=some (Z (.ptr s.size 0)):=rfl;by_cases X:a<0
   ·have h:eO p k=false:=by
     have:¬0<=a:=(by omega);rw[o];simp[jd,this]
    refine .inr ⟨.ret (B false),u,?_,(λv G=>by cases G),.inr ⟨rfl,bad h⟩,rfl⟩;unfold jv;generalize(k:Int)=K at*;simp[O,S,w,r,X,bD]
   ·by_cases Sj:1099511627776<a
    ·have h:eO p k=false:=by
      have:¬a<=1099511627776:=(by omega);rw[o];simp[jd,this]
     refine .inr ⟨.ret (B false),u,?_,(λv G=>by cases G),.inr ⟨rfl,bad h⟩,rfl⟩;unfold jv;generalize(k:Int)=K at*;simp[O,S,w,r,X,Sj,bD]
    ·have hA:jd a=true:=by
      have x:0<=a:=(by omega);have h2:a<=1099511627776:=(by omega);simp[jd,x,h2]
     by_cases k0:k=0
     ·have h:eO p k=true:=(by rw[o];simp[hA,k0]);have ck:¬(0:Int)<(k:Int):=(by omega);refine .inl ⟨[Z (.ptr s.size 0),J ((k+1:Nat):Int)],u,q-1,?_,by omega,k+1,by omega,rfl,rfl,next h⟩;unfold jv;generalize((k+1:Nat):Int)=K1,(k:Int)=K at*;simp[O,S,w,r,X,Sj,ck,w1,bD]
     ·obtain⟨b,Ss⟩:=aZ (eV p (k-1));rw[<-Ss]at o;have ck:(0:Int)<(k:Int):=(by omega);have w2:IntKind.i64.wrap ((k:Int)-1)=((k-1:Nat):Int):=(by rw[aw _ (by omega) (by omega)];omega);have V:=ix (k-1) (by omega);have H:=ld (k-1) (by omega);rw[<-Ss]at H;by_cases Q:a=0
      ·have h:eO p k=true:=(by rw[o,hA];simp[kD,Q]);refine .inl ⟨[Z (.ptr s.size 0),J ((k+1:Nat):Int)],u,q-1,?_,by omega,k+1,by omega,rfl,rfl,next h⟩;unfold jv;subst Q;generalize((k+1:Nat):Int)=K1,((k-1:Nat):Int)=K0,(k:Int)=K at*;simp[O,S,w,r,ck,w1,bD]
      ·by_cases Sm:a<b
       ·have h:eO p k=false:=by
         have x:¬b<=a:=(by omega);rw[o];simp[hA,kD,Q,x,k0]
        refine .inr ⟨.ret (B false),u,?_,(λv G=>by cases G),.inr ⟨rfl,bad h⟩,rfl⟩;unfold jv;generalize((k+1:Nat):Int)=K1,((k-1:Nat):Int)=K0,(k:Int)=K at*;simp[O,S,w,r,X,Sj,ck,w2,V,H,Q,Sm,bD]
       ·by_cases Sl:b=0
        ·have h:eO p k=false:=(by rw[o];simp[hA,kD,Q,Sl,k0]);refine .inr ⟨.ret (B false),u,?_,(λv G=>by cases G),.inr ⟨rfl,bad h⟩,rfl⟩;unfold jv;generalize((k+1:Nat):Int)=K1,((k-1:Nat):Int)=K0,(k:Int)=K at*;simp[O,S,w,r,X,Sj,ck,w2,V,H,Q,Sm,Sl,bD]
        ·have h:eO p k=true:=by
          have x:b<=a:=(by omega);rw[o];simp[hA,kD,x,Sl]
         refine .inl ⟨[Z (.ptr s.size 0),J ((k+1:Nat):Int)],u,q-1,?_,by omega,k+1,by omega,rfl,rfl,next h⟩;unfold jv;generalize((k+1:Nat):Int)=K1,((k-1:Nat):Int)=K0,(k:Int)=K at*;simp[O,S,w,r,X,Sj,ck,w2,V,H,Q,Sm,Sl,w1,bD]
  ·right;have Sn:k=4:=by omega
   subst Sn;refine⟨.exit 0 [Z (.ptr s.size 0)],u,?_,(λv G=>by cases G),.inl ⟨rfl,(ml p).2 Sk⟩,rfl⟩;unfold jv;simp) 8192 4 [Z (.ptr s.size 0),J 0] s1 ⟨0,rfl,rfl,rfl,λj T=>by omega⟩ (by omega)
 subst Sr;refine⟨Sv,?_,g⟩;have y:ab 0 (Z (.ptr s.size 0))=some (Z (.ptr s.size 0)):=rfl;have z:ab 4 (Z (.ptr s.size 0))=some (Z (.ptr s.size 4)):=rfl;have C:ab 5 (Z (.ptr s.size 0))=some (Z (.ptr s.size 5)):=rfl;have D:bz 4 1 (Z (.ptr s.size 0)) (J 3)=some (Z (.ptr s.size 3)):=rfl;have E:=ld 3 (by omega);rcases T with ⟨rfl,Y⟩ | ⟨rfl,Y⟩
 ·have Sp:pQ p=(decide (p.a3=0)&&decide (1<=p.c)&&decide (p.c<=64)&&decide (1<=p.n)&&decide (p.n<=200)):=by simp[pQ,Y]
  rw[Sp];by_cases d1:p.a3=0
  ·by_cases d2:1<=p.c
   ·by_cases d3:p.c<=64
    ·by_cases d4:1<=p.n
     ·simp[nw,lp,y,z,C,D,E,I,N,eV,d1,d2,d3,d4]
     ·simp[nw,lp,y,z,C,D,E,I,N,eV,d1,d2,d3,d4]
    ·simp[nw,lp,y,z,C,D,E,I,N,eV,d1,d2,d3]
   ·simp[nw,lp,y,z,C,D,E,I,N,eV,d1,d2]
  ·simp[nw,lp,y,z,C,D,E,eV,d1]
 ·have Sp:pQ p=false:=by simp[pQ,Y]
  rw[Sp];simp[nw,lp]
end
def jK(w:Bs)(n:Int)(was:List Bool)(j:Nat):Bool:=decide (dA.getD j []=w)&&(decide (0<=n) && !was.getD j false)
def k8(p:kF)(was:List Bool)(w:Bs)(n:Int):Option (kF×List Bool):=match (List.range 4).find? (jK w n was)with
 |none=>none
 |some j=>some (pZ p (j:Nat) n,was.set j true)
def dM(p:kF)(was:List Bool)(ws:List Bs):Option (kF×List Bool):=
 if ws.length=3/\ws.getD 0 []=gu then k8 p was (ws.getD 1 []) (if ws.getD 2 []=fS then 0 else cG (ws.getD 2 []))
 else if ws.length≠2\/cG (ws.getD 1 [])<0 then none
 else if ws.getD 0 []=fG/\was.getD 4 false=false then some ({ p with c:=cG (ws.getD 1 []) },was.set 4 true)
 else if ws.getD 0 []=fH/\was.getD 5 false=false then some ({ p with n:=cG (ws.getD 1 []) },was.set 5 true)
 else none
def ij(l:List Bool):List S:=l.map S.bool
def Ic(i c:Nat)(s t:St):Prop:=t.wf/\s.size<=t.size/\∀b,b<s.size->b≠i->b≠c->t.get b=s.get b
section
variable {s t:St}{x y:S}{l:Bs}{i c:Nat}
theorem Bk{f:Nat->Bool}{k:Nat}(d:k<4)(h:∀j,j<k->f j=false)(c:f k=true):(List.range 4).find? f=some k:=by
 have e:List.range 4=[0,1,2,3]:=rfl;rw[e]
 match k,d with
 | 0,_=>simp[c]
 | 1,_=>simp[c,h 0 (by omega)]
 | 2,_=>simp[c,h 0 (by omega),h 1 (by omega)]
 | 3,_=>simp[c,h 0 (by omega),h 1 (by omega),h 2 (by omega)]
theorem oL{f:Nat->Bool}(h:∀j,j<4->f j=false):(List.range 4).find? f=none:=by
 have e:List.range 4=[0,1,2,3]:=rfl;rw[e];simp[h 0 (by omega),h 1 (by omega),h 2 (by omega),h 3 (by omega)]
theorem p5{p f:kF}{was:List Bool}{j m:Nat}{n:Int}(l:s.wf)(t:s.get i=some (.K true (cP p)))(r:s.get c=some (.K true (ij was)))(a:i≠c)(z:j<6)(A:m<was.length)
 (d:aQ (cP p) j [.int .i64 n]=cP f) :
 ∃u t2,aj 1 (Z (.ptr i j)) (J n) s=some (tt,u)/\aj 1 (Z (.ptr c m)) (B true) u=some (tt,t2)/\t2.get i=some (.K true (cP f))/\t2.get c=some (.K true (ij (was.set m true)))/\Ic i c s t2:=by
 have k:=l.lt t;have h:=l.lt r;have q:=aJ (σ:=s) (i:=i) (o:=j) (x := .int .i64 n) t (by simpa[cP]using z);have g:(s.set i (.K true (cP f))).get c=some (.K true (ij was)):=by rw[St.bO (λe=>a e.symm)];exact r
 have v:=aJ (σ:=s.set i (.K true (cP f))) (i:=c) (o:=m) (x := .bool true) g (by simpa[ij]using A);rw[d]at q;refine⟨_,_,q,v,?_,?_,St.wf_set (St.wf_set l k _) (by simpa using h) _,by simp,λb C w y=>by rw[St.bO y,St.bO w]⟩
 ·rw[St.bO a];exact St.dh
 ·rw[St.get_set_same];show some (er.K true ((ij was).set m (.bool true)))=_
  rw[ij,ij,uB]
theorem Hw(d:Nat)(Sy:s.wf){p:kF}{was:List Bool}{ws:List Bs}{n:Int}{cap:Cap}(hp:s.get i=some (.K true (cP p)))(hc:s.get c=some (.K true (ij was)))(hw:was.length=6)(Ss:i≠c)(hx:RT s x ws)(Sj:∀b,own x=some b->b<s.size){w1:Bs}(O:ws[1]? = some w1) :
 ∃j t,loops (mv (R (d+1)) 8192) 8192 [Z (.ptr i 0),Z (.sl c 0 6 cap),Z x,J n,J 0] s=some (j,t) ∧
  match k8 p was w1 n with
  |none=>j = .exit 0 []/\Gr s t
  |some (p',C)=>j = .ret (B true)/\t.get i=some (.K true (cP p'))/\t.get c=some (.K true (ij C))/\Ic i c s t:=by
 have Su:=Sy.lt hp;have Sr:=Sy.lt hc
 obtain⟨j,SB,lp,hj⟩:=aL (f:=mv (R (d+1)) 8192) (λq v u=>∃k:Nat,q+k=4/\v=[Z (.ptr i 0),Z (.sl c 0 6 cap),Z x,J n,J k]/\Gr s u/\∀j,j<k->jK w1 n was j=false)
  (λj t=>match k8 p was w1 n with
   |none=>j = .exit 0 []/\Gr s t
   |some (p',C)=>j = .ret (B true)/\t.get i=some (.K true (cP p'))/\t.get c=some (.K true (ij C))/\Ic i c s t) (by
  rintro q v u ⟨k,hk,rfl,g,I⟩;by_cases D:k<4
  ·have Sk:(k:Int)<4:=by omega
   obtain⟨nm,u1,e1,f1⟩:=DN d g.wf;have F:=g.trans f1.gr
   have H:dA[k]? = some (dA.getD k []):=by
    rw[dq,aU (show k<dA.length from D)];rfl
   obtain⟨q1,Sl,U⟩:=RT.MG f1.rd (n:=(k:Int)) rfl H;obtain⟨q2,T,l2⟩:=RT.MG hx (j:=1) (n:=1) rfl O
   have E:aa q2 u.get=some (Z (.str w1)):=by
    obtain⟨Sx,z,Q⟩:=RT.MG (hx.gr Sj g) (j:=1) (n:=1) rfl O;rw[T]at z;cases z;exact Q
   have y:aa q2 u1.get=some (Z (.str w1)):=by
    obtain⟨Sx,z,Q⟩:=RT.MG (hx.gr Sj F) (j:=1) (n:=1) rfl O;rw[T]at z;cases z;exact Q
   have X:u1.get c=some (.K true (ij was)):=by rw[F.2.2 c Sr];exact hc
   have Sw:u1.get i=some (.K true (cP p)):=by rw[F.2.2 i Su];exact hp
   have i3:ar 1 (Z (.sl c 0 6 cap)) (J k)=some (Z (.ptr c k)):=by
    have:=eu (e:=1) (b:=c) (o:=0) (len:=6) (c:=cap) (k := .i64) (n:=(k:Int)) rfl (show k<6 by omega)
    simpa using this
   have l3:aa (Z (.ptr c k)) u1.get=some (B (was.getD k false)):=by
    refine ag X ?_;rw[ij,cL,dq,aU (by omega)];rfl
   have wk:IntKind.i64.wrap ((k:Int)+1)=((k+1:Nat):Int):=by rw[aw _ (by omega) (by omega)];omega
   obtain⟨nk,w⟩:=aZ (dA.getD k []);rw[<-w]at U
   have N:jK w1 n was k=false->∀j,j<k+1->jK w1 n was j=false:=λh j hj=>by
    by_cases e:j=k
    ·rw[e];exact h
    ·exact I j (by omega)
   cases G:jK w1 n was k with
   |true=>
    right
    have hr:k8 p was w1 n=some (pZ p (k:Nat) n,was.set k true):=by
     unfold k8;rw[Bk D I G]
    rw[hr];have Y:=G;simp only[jK,aM,bK,ku]at Y;obtain⟨S,V,h3⟩:=Y;obtain⟨t1,t2,s1,s2,r1,r2,Sm⟩:=p5 (j:=k) (m:=k) (n:=n) F.wf Sw X Ss (by omega) (by omega) (Fh D);refine⟨.ret (B true),t2,?_,(λv hv=>by cases hv),rfl,r1,r2,Sm.1,bl F.2.1 Sm.2.1,λb Sz Sn Sp=>by rw[Sm.2.2 b (bh Sz F.2.1) Sn Sp,F.2.2 b Sz]⟩;have SA:ab 0 (Z (.ptr i 0))=some (Z (.ptr i 0)):=rfl
    have i4:bz 4 1 (Z (.ptr i 0)) (J k)=some (Z (.ptr i k)):=by
     match k,D with
     | 0,_=>rfl
     | 1,_=>rfl
     | 2,_=>rfl
     | 3,_=>rfl
    rw[<-w]at S;subst S;rw[h3]at l3;unfold mv;clear H w;generalize R (d+1)=r at*;simp[Sk,e1,Sl,U,T,y,E,V,i3,l3,SA,i4,s1,s2]
   |false=>
    left;refine⟨[Z (.ptr i 0),Z (.sl c 0 6 cap),Z x,J n,J ((k+1:Nat):Int)],u1,q-1,?_,by omega,k+1,by omega,rfl,F,N G⟩;simp only[jK,<-w]at G;unfold mv;clear H w;generalize R (d+1)=r at*;by_cases S:nk=w1
    ·rw[S]at U;rw[aK S,dX]at G;by_cases V:0<=n
     ·rw[aK V,dX,Bool.not_eq_false']at G;rw[G]at l3;simp[Sk,e1,Sl,U,T,y,E,V,i3,l3,wk]
     ·simp[Sk,e1,Sl,U,T,y,E,V,wk]
    ·simp[Sk,e1,Sl,U,T,y,E,S,wk]
  ·right;have Sv:k=4:=by omega
   subst Sv;refine⟨.exit 0 [],u,?_,(λv hv=>by cases hv),?_⟩
   ·unfold mv;simp
   ·have:k8 p was w1 n=none:=(by unfold k8;rw[oL I]);rw[this];exact⟨rfl,g⟩) 8192 4 [Z (.ptr i 0),Z (.sl c 0 6 cap),Z x,J n,J 0] s ⟨0,rfl,rfl,Gr.refl Sy,λj hj=>by omega⟩ (by omega)
 exact⟨j,SB,lp,hj⟩
end
section
variable {s t:St}{x y:S}{l:Bs}{i c:Nat}
theorem QR{p:kF}{n:Int}:aQ (cP p) 4 [.int .i64 n]=cP { p with c:=n }:=rfl
theorem QS{p:kF}{n:Int}:aQ (cP p) 5 [.int .i64 n]=cP { p with n:=n }:=rfl
theorem Hx(d:Nat)(N:s.wf){p:kF}{was:List Bool}{ws:List Bs}{cap:Cap}(hp:s.get i=some (.K true (cP p)))(hc:s.get c=some (.K true (ij was)))(hw:was.length=6)(S:i≠c)(hx:RT s x ws)(Sp:∀b,own x=some b->b<s.size) :
 ∃b t,R (d+2) 145 [Z (.ptr i 0),Z (.sl c 0 6 cap),Z x] s=some (B b,t) ∧
  match dM p was ws with
  |none=>b=false/\Gr s t
  |some (p',E)=>b=true/\t.get i=some (.K true (cP p'))/\t.get c=some (.K true (ij E))/\Ic i c s t:=by
 rw[Jw];unfold f145;have y:=hx.lens;have at_:∀(j:Nat) (w:Bs),ws[j]? = some w->∃q,ar 1 (Z x) (J (j:Nat))=some q/\aa q s.get=some (Z (.str w)):=λj w h=>RT.MG hx (n:=((j:Nat):Int)) rfl h
 have C:∀j,j<6->∃q,ar 1 (Z (.sl c 0 6 cap)) (J (j:Nat))=some q/\aa q s.get=some (B (was.getD j false))/\q=Z (.ptr c j):=λj X=>by
  refine⟨Z (.ptr c j),?_,?_,rfl⟩
  ·have:=eu (e:=1) (b:=c) (o:=0) (len:=6) (c:=cap) (k := .i64) (n:=((j:Nat):Int)) rfl X
   simpa using this
  ·refine ag hc ?_;rw[ij,cL,dq,aU (by omega)];rfl
 by_cases h3:ws.length=3
 ·obtain⟨w0,w1,z,rfl⟩:∃w0 w1 z,ws=[w0,w1,z]:=by
   match ws,h3 with
   | [a,b,c],_=>exact⟨a,b,c,rfl⟩
  have y:aG (Z x)=some (J 3):=y;obtain⟨q0,D,I⟩:=at_ 0 w0 rfl;obtain⟨q2,i2,l2⟩:=at_ 2 z rfl;have D:ar 1 (Z x) (J 0)=some q0:=D;have i2:ar 1 (Z x) (J 2)=some q2:=i2;by_cases hk:w0=gu
  ·have U:dM p was [w0,w1,z]=k8 p was w1 (if z=fS then 0 else cG z):=by
    unfold dM;rw[af ⟨rfl,hk⟩];rfl
   rw[U];have G:=tC (l:=z) (s:=s) d;have F:decide (w0=[107,101,101,112])=true:=aK hk;have ev:decide (z=[101,118,101,114])=decide (z=fS):=rfl;obtain⟨j,τ,lp,X⟩:=Hw (n:=if z=fS then 0 else cG z) (cap:=cap) (w1:=w1) d N hp hc hw S hx Sp rfl
   have res:∃b,(jn (jn (loops (mv (R (d+1)) 8192) 8192 [Z (.ptr i 0),Z (.sl c 0 6 cap),Z x,J (if z=fS then 0 else cG z),J 0] s)
    (jM []) jZ jR)
    (λSI SA=>some ((B false),SA)) jN jT:Option (T×St))=some (B b,τ) ∧
    match k8 p was w1 (if z=fS then 0 else cG z)with
    |none=>b=false/\Gr s τ
    |some (p',E)=>b=true/\τ.get i=some (.K true (cP p'))/\τ.get c=some (.K true (ij E))/\Ic i c s τ:=by
    rw[lp];cases Sk:k8 p was w1 (if z=fS then 0 else cG z)with
    |none=>
     rw[Sk]at X;obtain⟨rfl,g⟩:=X;exact⟨false,by simp,rfl,g⟩
    |some pw=>
     rw[Sk]at X;obtain⟨rfl,r1,r2,r3⟩:=X;exact⟨true,by simp,rfl,r1,r2,r3⟩
   obtain⟨b,e,SH⟩:=res;refine⟨b,τ,?_,SH⟩;by_cases he:z=fS
   ·rw[af he]at e;have Q:decide (z=[101,118,101,114])=true:=aK he;generalize R (d+1)=r at*;simp only[y,dt,eS,decide_true,ES,beq_self_eq_true,qD,D,I,EB,F,eo,fk,i2,l2,G,fN,Q,jk,ou,vD,nT,nU,oa,n4,Bw,lh,gi];exact e
   ·rw[ae he]at e;have Q:decide (z=[101,118,101,114])=false:=aR he;generalize R (d+1)=r at*;simp only[y,dt,eS,decide_true,ES,beq_self_eq_true,qD,D,I,EB,F,eo,fk,iF,i2,l2,G,fN,Q,jk,ou,vD,nT,nU,oa,n4,Bw,lh,gi];exact e
  ·have U:dM p was [w0,w1,z]=none:=by
    unfold dM;rw[ae (λh=>hk h.2),af (.inl (by simp))]
   rw[U];have F:decide (w0=[107,101,101,112])=false:=aR hk;refine⟨false,s,?_,rfl,Gr.refl N⟩;generalize R (d+1)=r at*;simp[y,D,I,F,bD]
 ·by_cases h2:ws.length=2
  ·obtain⟨w0,w1,rfl⟩:∃w0 w1,ws=[w0,w1]:=by
    match ws,h2 with
    | [a,b],_=>exact⟨a,b,rfl⟩
   have y:aG (Z x)=some (J 2):=y;obtain⟨q0,D,I⟩:=at_ 0 w0 rfl;obtain⟨q1,O,Sj⟩:=at_ 1 w1 rfl;have D:ar 1 (Z x) (J 0)=some q0:=D;have O:ar 1 (Z x) (J 1)=some q1:=O;have G:=tC (l:=w1) (s:=s) d
   have U:dM p was [w0,w1]=if cG w1<0 then none else if w0=fG/\was.getD 4 false=false then some ({ p with c:=cG w1 },was.set 4 true)else if w0=fH/\was.getD 5 false=false then some ({ p with n:=cG w1 },was.set 5 true)else none:=by
    unfold dM;rw[ae (λh=>by simp at h)];by_cases u:cG w1<0
    ·rw[af (.inr u),af u]
    ·rw[ae (λh=>h.elim (λh=>h rfl) u),ae u];rfl
   rw[U];by_cases u:cG w1<0
   ·rw[af u];refine⟨false,s,?_,rfl,Gr.refl N⟩;generalize R (d+1)=r at*;simp[y,O,Sj,G,u]
   ·rw[ae u];obtain⟨q4,i4,l4,Sr⟩:=C 4 (by omega);obtain⟨q5,i5,l5,Ss⟩:=C 5 (by omega);subst Sr Ss;have i4:ar 1 (Z (.sl c 0 6 cap)) (J 4)=some (Z (.ptr c 4)):=i4;have i5:ar 1 (Z (.sl c 0 6 cap)) (J 5)=some (Z (.ptr c 5)):=i5;obtain⟨SJ,SF,SB,SC,Sw,Sx,ba⟩:=p5 (j:=4) (m:=4) (n:=cG w1) N hp hc S (by omega) (by omega) QR;obtain⟨b1,b2,SD,SE,Sy,Sz,bb⟩:=p5 (j:=5) (m:=5) (n:=cG w1) N hp hc S (by omega) (by omega) QS;have Sm:ab 4 (Z (.ptr i 0))=some (Z (.ptr i 4)):=rfl;have Sn:ab 5 (Z (.ptr i 0))=some (Z (.ptr i 5)):=rfl;obtain⟨x4,Su⟩:=aZ (was.getD 4 false);obtain⟨x5,Sv⟩:=aZ (was.getD 5 false);rw[<-Su]at l4 ⊢;rw[<-Sv]at l5 ⊢;have ks:decide (w0=[115,101,97,108])=decide (w0=fG):=rfl;have V:decide (w0=[115,112,97,110])=decide (w0=fH):=rfl;have Sl:w0=fG->¬w0=fH:=λh h'=>by rw[h]at h';exact absurd h' (by decide)
    generalize R (d+1)=r at*;by_cases Y:w0=fG
    ·rw[aK Y]at ks;rw[aR (Sl Y)]at V;cases x4 with
     |false=>
      rw[af ⟨Y,rfl⟩];exact⟨true,SF,by simp[y,O,Sj,G,u,D,I,ks,i4,l4,Sm,SB,SC],rfl,Sw,Sx,ba⟩
     |true=>
      rw[ae (λh=>by cases h.2),ae (λh=>Sl Y h.1)];exact⟨false,s,by simp[y,O,Sj,G,u,D,I,ks,i4,l4,V,bD],rfl,Gr.refl N⟩
    ·rw[aR Y]at ks;rw[ae (λh=>Y h.1)];by_cases H:w0=fH
     ·rw[aK H]at V;cases x5 with
      |false=>
       rw[af ⟨H,rfl⟩];exact⟨true,b2,by simp[y,O,Sj,G,u,D,I,ks,V,i5,l5,Sn,SD,SE],rfl,Sy,Sz,bb⟩
      |true=>
       rw[ae (λh=>by cases h.2)];exact⟨false,s,by simp[y,O,Sj,G,u,D,I,ks,V,i5,l5],rfl,Gr.refl N⟩
     ·rw[aR H]at V;rw[ae (λh=>H h.1)];exact⟨false,s,by simp[y,O,Sj,G,u,D,I,ks,V],rfl,Gr.refl N⟩
  ·have U:dM p was ws=none:=by
    unfold dM;rw[ae (λh=>h3 h.1),af (.inl h2)]
   rw[U];have c3:¬(ws.length:Int)=3:=by omega
   have SG:¬(ws.length:Int)=2:=by omega
   refine⟨false,s,?_,rfl,Gr.refl N⟩;generalize R (d+1)=r at*;simp[y,c3,SG,bD]
end
def Ak:kF->List Bool->Nat->List Bs->kF×Int×Int
 |p,_,_,[]=>if pQ p then(p,0,0)else(bV,5,0)
 |p,was,k,x::r=>if bI x=[]then Ak p was (k+1) r else
  match dM p was (bI x)with
  |none=>(bV,4,((k+1:Nat):Int))
  |some (d,c)=>Ak d c (k+1) r
def j7:Bs->Bs->List Bs
 | [],c=>[c]
 |b::r,c=>if b=10 then c::j7 r []else j7 r (c++[b])
theorem sc:∀(x c:Bs),j7 x c=(match bL 10 x with | []=>[] | h::t=>(c++h)::t)
 | [],c=>by simp[j7,bL]
 |b::r,c=>by
  unfold j7;have d:bL 10 r≠[]:=λh=>by have:=fw 10 r;rw[h]at this;simp at this
  rw[oo];by_cases h:b=10
  ·rw[af h,sc r []];have:Nat.beq b.toNat (10:UInt8).toNat=true:=jH.2 h;rw[this];cases g:bL 10 r with
   |nil=>exact absurd g d
   |cons a t=>simp
  ·have:Nat.beq b.toNat (10:UInt8).toNat=false:=by
    rw[gE];exact λe=>h (jH.1 e)
   rw[ae h,this,sc r (c++[b])];cases g:bL 10 r with
   |nil=>exact absurd g d
   |cons a t=>simp[pK]
theorem GX(x:Bs):j7 x []=bL 10 x:=by
 rw[sc];cases c:bL 10 x with
 |nil=>rfl
 |cons a t=>simp
def fu(l:Bs):kF×Int×Int:=Ak gM (List.replicate 6 false) 0 (bL 10 l)
abbrev Hr(q:kF×Int×Int):T := .c6 [.agg (cP q.1),.s (.int .i64 q.2.1),.s (.int .i64 q.2.2)]
theorem DM{p b:kF}{was a:List Bool}{ws:List Bs}(h:dM p was ws=some (b,a)):a.length=was.length:=by
 unfold dM k8 at h;split at h
 ·split at h
  ·cases h
  ·cases h;simp
 ·split at h
  ·cases h
  ·split at h
   ·cases h;simp
   ·split at h
    ·cases h;simp
    ·cases h
section
variable {s t:St}{x y:S}{l:Bs}{i c r0:Nat}
theorem v7(d:Nat)(S9:s.wf)(hl:l.length<=8000):∃t,R (d+3) 107 [Z (.str l)] s=some (Hr (fu l),t)/\Gr s t:=by
 rw[Jb];unfold f107;have C:aV (Z (.str l))=some (J (l.length:Int)):=rfl;obtain⟨s1,Su⟩:=aZ (s.push (.K true (cP bV)));have Sy:aE s (a6 [iz,iz,iz,iz,iz,iz])=some (Z (.ptr s.size 0),s1):=by rw[Su];rfl
 have g1:Gr s s1:=by rw[Su];exact Gr.push S9 _
 have b1:s1.get s.size=some (.K true (cP bV)):=by rw[Su];exact St.ec
 have z1:s1.size=s.size+1:=by rw[Su];simp
 obtain⟨G,e2,g2⟩:=qY (d+1) g1.wf;obtain⟨s3,Sv⟩:=aZ (G.push (.K true (cP bV)));have Sz:aE G (a6 [iz,iz,iz,iz,iz,iz])=some (Z (.ptr G.size 0),s3):=by rw[Sv];rfl
 have b3:s3.get G.size=some (.K true (cP bV)):=by rw[Sv];exact St.ec
 have g3:Gr G s3:=by rw[Sv];exact Gr.push g2.wf _
 have z3:s3.size=G.size+1:=by rw[Sv];simp
 obtain⟨N,S⟩:=aZ (s3.set G.size (.K true (cP gM)));have Sj:=gB (p:=gM) b3 rfl;rw[<-S]at Sj;have b4:N.get G.size=some (.K true (cP gM)):=by rw[S];exact St.dh
 have z4:N.size=G.size+1:=by rw[S];simp[z3]
 have S1:N.wf:=by rw[S];exact St.wf_set g3.wf (by omega) _
 have o4:∀b,b<G.size->N.get b=G.get b:=λb x=>by rw[S,St.bO (by omega)];exact g3.2.2 b x
 obtain⟨s5,Sw⟩:=aZ (N.push (.K true (ij (List.replicate 6 false))));have SA:aE N (BI 1 1 [.bool false] (J 6) (J 6))=some (Z (.sl N.size 0 6 (.known 6)),s5):=by rw[Sw];rfl
 have g5:Gr N s5:=by rw[Sw];exact Gr.push S1 _
 have S7:=g2.2.1;have i2:G.size≠N.size:=by omega
 have SJ:s5.get G.size=some (.K true (cP gM)):=by rw[g5.2.2 _ (by omega)];exact b4
 have SI:s5.get N.size=some (.K true (ij (List.replicate 6 false))):=by rw[Sw];exact St.ec
 have SK:s5.get s.size=some (.K true (cP bV)):=by rw[g5.2.2 _ (by omega),o4 _ (by omega),g2.2.2 _ (by omega)];exact b1
 have z5:s5.size=N.size+1:=by rw[Sw];simp
 have SP:∀b,b<s.size->s5.get b=s.get b:=λb x=>by rw[g5.2.2 _ (by omega),o4 _ (by omega),g2.2.2 _ (by omega),g1.2.2 _ x]
 obtain⟨I0,hI⟩:=aZ (G.size);obtain⟨C0,hC⟩:=aZ (N.size);obtain⟨g,hR⟩:=aZ (s.size);have SU:I0≠C0:=by omega
 have SW:g≠I0:=by omega
 have SV:g≠C0:=by omega
 rw[<-hI]at Sz Sj SJ;rw[<-hC]at SA SI;rw[<-hR]at Sy SK
 have Y:∀(u:St) (q:kF),u.get g=some (.K true (cP bV))->∃u',aj 6 (Z (.ptr g 0)) (AP q) u=some (tt,u')/\ay 6 (Z (.ptr g 0)) u'.get=some (AP q)/\(u.wf->u'.wf)/\u'.size=u.size/\∀b,b≠g->u'.get b=u.get b:=λu q h=>
  ⟨_,gB h rfl,k3 (St.dh),λw=>St.wf_set w (w.lt h) _,by simp,λb x=>St.bO x⟩
 obtain⟨j,S3,lp,hj⟩:=aL (f:=kK (R (d+2)) 8192) (λq v u=>∃(k a n:Nat) (p:kF) (was:List Bool),q+k=l.length+1/\a<=k/\n<=k/\v=[Z (.str l),Z (.ptr g 0),Z (.ptr I0 0),Z (.sl C0 0 6 (.known 6)),J a,J (n:Nat),J k] ∧
  u.wf/\s5.size<=u.size/\(∀b,b<s.size->u.get b=s.get b)/\u.get g=some (.K true (cP bV))/\u.get I0=some (.K true (cP p))/\u.get C0=some (.K true (ij was))/\was.length=6 ∧
  Ak p was n (if k<=l.length then j7 (l.drop k) ((l.take k).drop a)else [])=fu l)
  (λj u=>u.wf/\s5.size<=u.size/\(∀b,b<s.size->u.get b=s.get b)/\(j = .ret (Hr (fu l))\/∃p was n,j = .exit 0 [Z (.ptr g 0),Z (.ptr I0 0)]/\u.get g=some (.K true (cP bV))/\u.get I0=some (.K true (cP p))/\Ak p was n []=fu l)) (by
  rintro q v u ⟨k,a,n,p,was,hq,SX,S6,rfl,I,T,V,bR,Sk,bC,Sx,e⟩;have w1:IntKind.i64.wrap ((k:Int)+1)=((k+1:Nat):Int):=by rw[aw _ (by omega) (by omega)];omega
  have w2:IntKind.i64.wrap ((n:Int)+1)=((n+1:Nat):Int):=by rw[aw _ (by omega) (by omega)];omega
  by_cases SF:k<=l.length
  ·have Sl:(k:Int)<=(l.length:Int):=by omega
   rw[af SF]at e
   have line:∀D:List Bs,Ak p was n ((l.take k).drop a::D)=fu l->D=(if k+1<=l.length then j7 (l.drop (k+1)) ((l.take (k+1)).drop (k+1))else []) →
    (k=l.length\/(k<l.length/\bZ (Z (.str l)) (J k)=some (J8 10))) →
    (∃v' F k',kK (R (d+2)) 8192 [Z (.str l),Z (.ptr g 0),Z (.ptr I0 0),Z (.sl C0 0 6 (.known 6)),J a,J (n:Nat),J k] u=some (.normal v',F)/\q=k'+1 ∧
     ∃(k a n:Nat) (p:kF) (was:List Bool),k'+k=l.length+1/\a<=k/\n<=k/\v'=[Z (.str l),Z (.ptr g 0),Z (.ptr I0 0),Z (.sl C0 0 6 (.known 6)),J a,J (n:Nat),J k] ∧
      F.wf/\s5.size<=F.size/\(∀b,b<s.size->F.get b=s.get b)/\F.get g=some (.K true (cP bV))/\F.get I0=some (.K true (cP p))/\F.get C0=some (.K true (ij was))/\was.length=6 ∧
      Ak p was n (if k<=l.length then j7 (l.drop k) ((l.take k).drop a)else [])=fu l) ∨
    ∃j F,kK (R (d+2)) 8192 [Z (.str l),Z (.ptr g 0),Z (.ptr I0 0),Z (.sl C0 0 6 (.known 6)),J a,J (n:Nat),J k] u=some (j,F)/\(∀v,j ≠ .normal v) ∧
     (F.wf/\s5.size<=F.size/\(∀b,b<s.size->F.get b=s.get b)/\(j = .ret (Hr (fu l))\/∃p was n,j = .exit 0 [Z (.ptr g 0),Z (.ptr I0 0)]/\F.get g=some (.K true (cP bV))/\F.get I0=some (.K true (cP p))/\Ak p was n []=fu l)):=λD h1 y Sp=>by
    have pc:=xU SX SF;obtain⟨o,u1,e1,B⟩:=DR (l:=(l.take k).drop a) (d+1) I (by rw[fK,bb];omega);have SD:=I.lt Sk;have SC:=I.lt bC;have E:=I.lt bR;have lo:=B.rd.lens
    have Q:¬(k:Int)<(l.length:Int)\/((k:Int)<(l.length:Int)/\bZ (Z (.str l)) (J k)=some (J8 10)):=by
     rcases Sp with h | ⟨h,ha⟩
     ·exact .inl (by omega)
     ·exact .inr ⟨by omega,ha⟩
    have SN:q=q-1+1:=(by omega);by_cases U:bI ((l.take k).drop a)=[]
    ·have h2:Ak p was (n+1) D=fu l:=(by rw[<-h1,Ak,af U]);have lz:aG (Z o)=some (J 0):=(by rw[lo,U];rfl);left
     refine⟨[Z (.str l),Z (.ptr g 0),Z (.ptr I0 0),Z (.sl C0 0 6 (.known 6)),J ((k+1:Nat):Int),J ((n+1:Nat):Int),J ((k+1:Nat):Int)],u1,q-1,?_,SN,k+1,k+1,n+1,p,was,by omega,au _,by omega,rfl,B.gr.wf,bl T B.gr.2.1,
      (λb x=>by rw[B.gr.2.2 b (by omega)];exact V b x),by rw[B.gr.2.2 _ E];exact bR,by rw[B.gr.2.2 _ SD];exact Sk,by rw[B.gr.2.2 _ SC];exact bC,Sx,by rw[<-y];exact h2⟩
     unfold kK;clear Sp h1 e;generalize((k+1:Nat):Int)=K1,((n+1:Nat):Int)=N1 at*;simp only[aH,Nat.reduceAdd]at e1;generalize R (d+2)=r at*;rcases Q with O | ⟨O,ha⟩
     ·simp[C,Sl,O,bD,w2,pc,e1,lz,w1]
     ·simp[C,Sl,O,ha,w2,pc,e1,lz,w1]
    ·have Sr:(0:Int)<(((bI ((l.take k).drop a)).length:Nat):Int):=by
      have:=ry.2 U;omega
     obtain⟨b,u2,Sm,Ss⟩:=Hx (cap := .known 6) (i:=I0) (c:=C0) d B.gr.wf (p:=p) (was:=was) (by rw[B.gr.2.2 _ SD];exact Sk) (by rw[B.gr.2.2 _ SC];exact bC) Sx SU B.rd (λb x=>(B.new b x).2);cases hr:dM p was (bI ((l.take k).drop a))with
     |none=>
      rw[hr]at Ss;obtain⟨rfl,SR⟩:=Ss;have h2:fu l=(bV,4,((n+1:Nat):Int)):=(by rw[<-h1,Ak,ae U,hr]);have gu:=B.gr.trans SR;obtain⟨u3,SQ,l3,S0,S2,o3⟩:=Y u2 bV (by rw[gu.2.2 _ E];exact bR);right;refine⟨.ret (Hr (fu l)),u3,?_,(λv hv=>by cases hv),S0 gu.wf,by rw[S2];exact bl T gu.2.1,(λb x=>by rw[o3 b (by omega),gu.2.2 b (by omega)];exact V b x),.inl rfl⟩;rw[h2];unfold kK;clear Sp h1 e y;generalize(((bI ((l.take k).drop a)).length:Nat):Int)=WL,((k+1:Nat):Int)=K1,((n+1:Nat):Int)=N1 at*;simp only[aH,Nat.reduceAdd]at e1;have ag:=qf;generalize R (d+2)=r at*;rcases Q with O | ⟨O,ha⟩
      ·simp[C,Sl,O,bD,w2,pc,e1,lo,Sr,Sm,ag,SQ,l3,rC,rT,aD,a8]
      ·simp[C,Sl,O,ha,w2,pc,e1,lo,Sr,Sm,ag,SQ,l3,rC,rT,aD,a8]
     |some pw=>
      obtain⟨p',SE⟩:=pw;rw[hr]at Ss;obtain⟨rfl,m1,m2,m3⟩:=Ss;have h2:Ak p' SE (n+1) D=fu l:=(by rw[<-h1,Ak,ae U,hr]);left
      refine⟨[Z (.str l),Z (.ptr g 0),Z (.ptr I0 0),Z (.sl C0 0 6 (.known 6)),J ((k+1:Nat):Int),J ((n+1:Nat):Int),J ((k+1:Nat):Int)],u2,q-1,?_,SN,k+1,k+1,n+1,p',SE,by omega,au _,by omega,rfl,m3.1,bl T (bl B.gr.2.1 m3.2.1),
       (λb x=>by rw[m3.2.2 b (bh (show b<u.size by omega) B.gr.2.1) (by omega) (by omega),B.gr.2.2 b (by omega)];exact V b x),by rw[m3.2.2 _ (bh E B.gr.2.1) SW SV,B.gr.2.2 _ E];exact bR,m1,m2,by rw[DM hr];exact Sx,by rw[<-y];exact h2⟩
      unfold kK;clear Sp h1 e y;generalize(((bI ((l.take k).drop a)).length:Nat):Int)=WL,((k+1:Nat):Int)=K1,((n+1:Nat):Int)=N1 at*;simp only[aH,Nat.reduceAdd]at e1;generalize R (d+2)=r at*;rcases Q with O | ⟨O,ha⟩
      ·simp[C,Sl,O,bD,w2,pc,e1,lo,Sr,Sm,w1]
      ·simp[C,Sl,O,ha,w2,pc,e1,lo,Sr,Sm,w1]
   by_cases SM:k=l.length
   ·have hd:l.drop k=[]:=(by rw[Ac];omega);rw[hd,j7]at e;exact line [] e (by rw[ae (by omega)]) (.inl SM)
   ·have hk:k<l.length:=(by omega);have hd:l.drop k=l[k]::l.drop (k+1):=cU hk;have ac:=jU (bs:=l) (n:=(k:Int)) rfl (aU hk);rw[hd]at e;unfold j7 at e;by_cases Sn:l[k]=10
    ·rw[af Sn]at e;rw[Sn]at ac;refine line _ e ?_ (.inr ⟨hk,ac⟩);rw[af (by omega)]
     have SO:(l.take (k+1)).drop (k+1)=[]:=by
      rw[Ac,bb];omega
     rw[SO]
    ·rw[ae Sn]at e
     have tk:(l.take (k+1)).drop a=(l.take k).drop a++[l[k]]:=by
      rw[cM,aU hk,nj,Em (by rw[bb];omega)]
     have SY:¬((l[k].toNat:Nat):Int)=10:=λh=>Sn (nk (by show l[k].toNat=10;omega))
     have S4:(k:Int)<(l.length:Int):=(by omega);left;refine⟨[Z (.str l),Z (.ptr g 0),Z (.ptr I0 0),Z (.sl C0 0 6 (.known 6)),J a,J (n:Nat),J ((k+1:Nat):Int)],u,q-1,?_,by omega,k+1,a,n,p,was,by omega,by omega,by omega,rfl,I,T,V,bR,Sk,bC,Sx,by rw[af (by omega),tk];exact e⟩;unfold kK;clear line;generalize((l[k].toNat:Nat):Int)=CH,((k+1:Nat):Int)=K1 at*;simp[C,Sl,S4,ac,SY,w1]
  ·have Sl:¬(k:Int)<=(l.length:Int):=by omega
   rw[ae SF]at e;right;refine⟨.exit 0 [Z (.ptr g 0),Z (.ptr I0 0)],u,?_,(λv hv=>by cases hv),I,T,V,.inr ⟨p,was,n,rfl,bR,Sk,e⟩⟩;unfold kK
   simp[C,Sl]) 8192 (l.length+1) [Z (.str l),Z (.ptr g 0),Z (.ptr I0 0),Z (.sl C0 0 6 (.known 6)),J 0,J 0,J 0] s5 ⟨0,0,0,gM,List.replicate 6 false,by omega,au _,au _,rfl,g5.wf,au _,SP,SK,SJ,SI,by simp,by
    rw[af (cc _)];show Ak gM _ 0 (j7 l [])=_
    rw[GX];rfl⟩ (by omega)
 obtain⟨SB,S8,X,hj⟩:=hj;have S5:∀u':St,u'.wf->u'.size=S3.size->(∀b,b≠g->u'.get b=S3.get b)->Gr s u':=λu' w z o=>⟨w,by omega,λb x=>by rw[o b (by omega)];exact X b x⟩
 simp only[aH,Nat.reduceAdd]at e2;rcases hj with rfl | ⟨p,was,n,rfl,bR,Sk,e⟩
 ·refine⟨S3,?_,SB,by omega,X⟩;generalize R (d+2)=r at*;simp[Sy,e2,Sz,Sj,SA,lp]
 ·have ld:=k3 Sk;obtain⟨u6,e6,g6⟩:=LJ (d+1) SB p;simp only[aH,Nat.reduceAdd]at e6;have SL:u6.get g=some (.K true (cP bV)):=by rw[g6.2.2 _ (SB.lt bR)];exact bR
  have SS:u6.get I0=some (.K true (cP p)):=by rw[g6.2.2 _ (SB.lt Sk)];exact Sk
  have SZ:=k3 SS;have H:Gr s u6:=⟨g6.wf,by have:=g6.2.1;omega,λb x=>by rw[g6.2.2 b (by omega)];exact X b x⟩;cases Ss:pQ p with
  |true=>
   have hq:fu l=(p,0,0):=by rw[<-e,Ak,af Ss]
   rw[Ss]at e6;obtain⟨u7,SH,SG,w7,z7,o7⟩:=Y u6 p SL;rw[hq];refine⟨u7,?_,w7 H.wf,by rw[z7];exact H.2.1,λb x=>by rw[o7 b (by omega)];exact H.2.2 b x⟩;generalize R (d+2)=r at*;simp[Sy,e2,Sz,Sj,SA,lp,ld,e6,SZ,SH,SG,rC,rT,aD,a8]
  |false=>
   have hq:fu l=(bV,5,0):=by rw[<-e,Ak,ae (by rw[Ss];decide)]
   rw[Ss]at e6;obtain⟨u7,SH,SG,w7,z7,o7⟩:=Y u6 bV SL;rw[hq];have ag:=qf;refine⟨u7,?_,w7 H.wf,by rw[z7];exact H.2.1,λb x=>by rw[o7 b (by omega)];exact H.2.2 b x⟩;generalize R (d+2)=r at*;simp[Sy,e2,Sz,Sj,SA,lp,ld,e6,ag,SH,SG,rC,rT,aD,a8]
end
def keyOf(j:Nat):Bs:=if j<4 then eQ [32] [gu,dA.getD j []]else if j=4 then fG else fH
theorem GW:∀j,j<6->∀k,k<6->keyOf j=keyOf k->j=k:=by decide +kernel
theorem DV:∀j,j<4->∀k,k<4->dA.getD j []=dA.getD k []->j=k:=by decide +kernel
structure Seen(was:List Bool)(seen:List Bs):Prop where
 len:was.length=6
 at_:∀j,j<6->was.getD j false=decide (keyOf j∈seen)
theorem Seen.add{was:List Bool}{seen:List Bs}(h:Seen was seen){j:Nat}(b:j<6):Seen (was.set j true) (seen++[keyOf j]):=by
 refine⟨by rw[iU];exact h.len,λk a => ?_⟩;have c:=h.len;by_cases e:k=j
 ·subst e;rw[dq,oW (by omega),aK (by simp)];rfl
 ·rw[dq,rv (λh=>e h.symm),<-dq,h.at_ k a];refine decide_eq_decide.2 ?_;rw[dP,df];exact⟨.inl,λh=>h.elim id λh=>absurd (GW k a j b h) e⟩
theorem Ff{w:Bs}:(0<=cG w↔cu w=true)/\(cu w=true->cG w=(gy w:Nat)):=by
 unfold cG;cases h:cu w with
 |true=>simp
 |false=>simp
theorem Cc{w:Bs}:(cG w<0↔cu w=false):=by
 unfold cG;cases h:cu w with
 |true=>simp
 |false=>simp
theorem QB(w:Bs):(0<=(if w=fS then 0 else cG w)↔¬(cu w=false/\w≠fS))/\(¬(cu w=false/\w≠fS)->(if w=fS then 0 else cG w)=((gy w:Nat):Int)):=by
 have d:cu fS=false:=by decide
 by_cases h:w=fS
 ·subst h;rw[af rfl];refine⟨by simp,λ_ => ?_⟩;unfold gy;rw[d];rfl
 ·rw[ae h];have:=Ff (w:=w);refine⟨?_,λe=>this.2 ?_⟩
  ·rw[this.1];cases c:cu w<;>simp[h]
  ·cases c:cu w with
   |true=>rfl
   |false=>exact absurd ⟨c,h⟩ e
theorem N9{p:kF}{was:List Bool}{seen:List Bs}{ws:List Bs}(h:Seen was seen) :
 match dM p was ws with
 |none=>kC p ws=none\/eQ [32] ws.dropLast∈seen
 |some (Y,q)=>kC p ws=some Y/\eQ [32] ws.dropLast∉seen/\Seen q (seen++[eQ [32] ws.dropLast]):=by
 by_cases R:ws.length=3
 ·obtain⟨w0,w1,u,rfl⟩:∃w0 w1 u,ws=[w0,w1,u]:=by
   match ws,R with
   | [a,b,c],_=>exact⟨a,b,c,rfl⟩
  by_cases w:w0=gu
  ·subst w
   have E:dM p was [gu,w1,u]=k8 p was w1 (if u=fS then 0 else cG u):=by
    unfold dM;rw[af ⟨rfl,rfl⟩];rfl
   have B:kC p [gu,w1,u]=if wJ w1 dA 0<0\/(cu u=false/\u≠fS)then none else some (pZ p (wJ w1 dA 0) (gy u:Nat)):=by
    unfold kC;rw[af ⟨rfl,rfl⟩];rfl
   rw[E,B];obtain⟨n0,n1⟩:=QB u;generalize(if u=fS then 0 else cG u)=n at*;rcases r7 w1 dA 0 with Q | ⟨j,S,Q,hw⟩
   ·have y:∀j,j<4->jK w1 n was j=false:=λj S=>by
     unfold jK;rw[aR,gh];intro e
     have:w1∈dA:=by
      rw[<-e,dq,aU (show j<dA.length from S)];exact mY _
     have:=(mF w1 dA 0).2 this;omega
    unfold k8;rw[oL y,Q];exact .inl (by rw[af (.inl (by omega))])
   ·rw[a7]at Q;have z:j<4:=S;have r:dA.getD j []=w1:=by rw[dq,hw];rfl
    have G:eQ [32] [gu,w1]=keyOf j:=by
     unfold keyOf;rw[af z,r]
    have o:∀k,k<4->k≠j->jK w1 n was k=false:=λk w T=>by
     unfold jK;rw[aR,gh];intro e;exact T (DV k w j z (by rw[e,r]))
    have F:=h.at_ j (by omega)
    show match k8 p was w1 n with
     |none=>_\/eQ [32] [gu,w1]∈seen
     |some (Y,q)=>_/\eQ [32] [gu,w1]∉seen/\Seen q (seen++[eQ [32] [gu,w1]])
    rw[G,Q];unfold k8;by_cases O:0<=n
    ·have H:=n0.1 O;by_cases t:keyOf j∈seen
     ·have:jK w1 n was j=false:=by
       unfold jK;rw[F,aK t];simp
      rw[oL (λk w=>by
       by_cases e:k=j
       ·rw[e];exact this
       ·exact o k w e)]
      exact .inr t
     ·have:jK w1 n was j=true:=by
       unfold jK;rw[F,aR t,aK r,aK O];rfl
      rw[Bk z (λk w=>o k (by omega) (by omega)) this];refine⟨?_,t,h.add (by omega)⟩;rw[ae (λg=>g.elim (λg=>by omega) H),n1 H]
    ·have:jK w1 n was j=false:=by
      unfold jK;rw[aR O];simp
     rw[oL (λk w=>by
      by_cases e:k=j
      ·rw[e];exact this
      ·exact o k w e)]
     refine .inl (af (.inr ?_));exact Classical.byContradiction λg=>O (n0.2 g)
  ·have E:dM p was [w0,w1,u]=none:=by
    unfold dM;rw[ae (λh=>w h.2),af (.inl (by simp))]
   have B:kC p [w0,w1,u]=none:=by
    unfold kC;rw[ae (λh=>w h.1),ae (λh=>by simp at h),ae (λh=>by simp at h)]
   rw[E,B];exact .inl rfl
 ·by_cases I:ws.length=2
  ·obtain⟨w0,w1,rfl⟩:∃w0 w1,ws=[w0,w1]:=by
    match ws,I with
    | [a,b],_=>exact⟨a,b,rfl⟩
   have E:dM p was [w0,w1]=if cG w1<0 then none else if w0=fG/\was.getD 4 false=false then some ({ p with c:=cG w1 },was.set 4 true)else if w0=fH/\was.getD 5 false=false then some ({ p with n:=cG w1 },was.set 5 true)else none:=by
    unfold dM;rw[ae (λh=>by simp at h)];by_cases d:cG w1<0
    ·rw[af (.inr d),af d]
    ·rw[ae (λh=>h.elim (λh=>h rfl) d),ae d];rfl
   have B:kC p [w0,w1]=if w0=fG/\cu w1=true then some { p with c:=(gy w1:Nat) } else if w0=fH/\cu w1=true then some { p with n:=(gy w1:Nat) } else none:=by
    unfold kC;rw[ae (λh=>by simp at h)];simp
   show match dM p was [w0,w1]with
    |none=>_\/eQ [32] [w0]∈seen
    |some (Y,q)=>_/\eQ [32] [w0]∉seen/\Seen q (seen++[eQ [32] [w0]])
   rw[E,B];have J:=h.at_ 4 (by omega);have N:=h.at_ 5 (by omega);have V:keyOf 4=fG:=rfl;have X:keyOf 5=fH:=rfl;have j1:eQ [32] [w0]=w0:=rfl;rw[j1];have U:w0=fG->¬w0=fH:=λh Z=>by rw[h]at Z;exact absurd Z (by decide)
   by_cases d:cG w1<0
   ·have y:=Cc.1 d;rw[af d];exact .inl (by rw[ae (λh=>by rw[y]at h;cases h.2),ae (λh=>by rw[y]at h;cases h.2)])
   ·have C:cu w1=true:=by
     cases g:cu w1 with
     |true=>rfl
     |false=>exact absurd (Cc.2 g) d
    have hv:=Ff.2 C;rw[ae d,hv];by_cases t:w0=fG
    ·by_cases x:fG∈seen
     ·rw[V,aK x]at J;rw[ae (λg=>by rw[J]at g;cases g.2),ae (λg=>U t g.1)];exact .inr (by rw[t];exact x)
     ·rw[V,aR x]at J;rw[af ⟨t,J⟩];refine⟨by rw[af ⟨t,C⟩],by rw[t];exact x,?_⟩;rw[t,<-V];exact h.add (by omega)
    ·rw[ae (λg=>t g.1)];by_cases D:w0=fH
     ·by_cases x:fH∈seen
      ·rw[X,aK x]at N;rw[ae (λg=>by rw[N]at g;cases g.2)];exact .inr (by rw[D];exact x)
      ·rw[X,aR x]at N;rw[af ⟨D,N⟩];refine⟨by rw[ae (λg=>t g.1),af ⟨D,C⟩],by rw[D];exact x,?_⟩;rw[D,<-X];exact h.add (by omega)
     ·rw[ae (λg=>D g.1)];exact .inl (by rw[ae (λg=>t g.1),ae (λg=>D g.1)])
  ·have E:dM p was ws=none:=by
    unfold dM;rw[ae (λh=>R h.1),af (.inl I)]
   have B:kC p ws=none:=by
    unfold kC;rw[ae (λh=>R h.2),ae (λh=>I h.2.1),ae (λh=>I h.2.1)]
   rw[E,B];exact .inl rfl
theorem DL:∀(ls:List Bs) (p:kF) (was:List Bool) (seen:List Bs) (k:Nat),Seen was seen->Ak p was k ls=gV p seen k ls
 | [],p,was,seen,k,h=>rfl
 |x::r,p,was,seen,k,h=>by
  unfold Ak gV;by_cases d:bI x=[]
  ·rw[af d,af d];exact DL r p was seen (k+1) h
  ·rw[ae d,ae d];have hl:=N9 (p:=p) (ws:=bI x) h;cases e:dM p was (bI x)with
   |none=>
    rw[e]at hl;rcases hl with hl | hl
    ·rw[hl];rfl
    ·simp only[af hl];split<;>rfl
   |some q=>
    obtain⟨o,c⟩:=q;rw[e]at hl;obtain⟨g,j,n⟩:=hl;rw[g];simp only[ae j];exact DL r o c _ (k+1) n
theorem vZ(l:Bs):fu l=e3 l:=DL _ _ _ _ _ ⟨rfl,by decide +kernel⟩
section
variable {s t:St}{x y:S}{l:Bs}{i c:Nat}
theorem mR{s0 u:St}{n m j:Nat}{xs:List S}{v:S}(g:Gr s0 u)(c:u.get m=some (.K true xs))(l:s0.size<=m)(h:j<xs.length)(a:n≠m) :
 ∃u',aj 1 (Z (.ptr m j)) (Z v) u=some (tt,u')/\u'.get m=some (.K true (xs.set j v))/\(∀k,aa (Z (.ptr n k)) u'.get=aa (Z (.ptr n k)) u.get)/\u'.get n=u.get n/\Gr s0 u':=by
 have e:=aJ (σ:=u) (i:=m) (o:=j) (x:=v) c h;have d:(u.set m (.K true (aQ xs j [v]))).get n=u.get n:=St.bO a;refine⟨_,e,St.dh,λk => ?_,d,St.wf_set g.wf (g.wf.lt c) _,by simpa using g.2.1,λb f=>by rw[St.bO (by omega)];exact g.2.2 b f⟩;simp only[aa,d]
theorem x5(d:Nat)(SL:s.wf)(e:bM)(hx:e.x.length<=8000):∃t,R (d+4) 104 [AE e] s=some (B (bR e),t)/\Gr s t:=by
 rw[I8];unfold f104;obtain⟨n,hn⟩:=aZ (s.size);obtain⟨s1,Sr⟩:=aZ (s.push (.K true (cE e)));have c:aE s (b6 (AE e))=some (Z (.ptr n 0),s1):=by rw[Sr,hn];rfl
 have g1:Gr s s1:=by rw[Sr];exact Gr.push SL _
 have z1:s1.size=n+1:=by rw[Sr,hn];rfl
 have b1:s1.get n=some (.K true (cE e)):=by rw[Sr,hn];exact St.ec
 have D:∀j,ab j (Z (.ptr n 0))=some (Z (.ptr n j)):=λj=>by simp[ab]
 have O:∀j,ab j (Z (.ptr (n+1) 0))=some (Z (.ptr (n+1) j)):=λj=>by simp[ab]
 have H:aa (Z (.ptr n 0)) s1.get=some (J e.k):=ag b1 rfl;have E:aa (Z (.ptr n 1)) s1.get=some (J e.v):=ag b1 rfl;by_cases hv:e.v<0\/1073741824<e.v
 ·have Sl:bR e=false:=by unfold bR;rw[af hv]
  rw[Sl];refine⟨s1,?_,g1⟩;generalize R (d+3)=r at*;rcases Classical.em (e.v<0)with h | h
  ·simp[c,D,E,h,bD]
  ·have h':=hv.resolve_left h;simp[c,D,E,h,h']
 ·have v1:¬e.v<0:=λh=>hv (.inl h)
  have N:¬1073741824<e.v:=λh=>hv (.inr h)
  obtain⟨y,Y⟩:∃y:bM,y={ bN with k:=e.k,v:=e.v }:=⟨_,rfl⟩;have F:aO (aA [iz,iz,iz,iz,iz,iz,.int .u32 0,.str []] [(0,1,J e.k),(1,1,J e.v)])=some (AE y):=by rw[Y];rfl
  obtain⟨s2,V⟩:=aZ (s1.push (.K true (cE bN)));have q:aE s1 (a6 [iz,iz,iz,iz,iz,iz,.int .u32 0,.str []])=some (Z (.ptr (n+1) 0),s2):=by rw[V,<-z1];rfl
  have b2:s2.get (n+1)=some (.K true (cE bN)):=by rw[V,<-z1];exact St.ec
  have SA:s2.get n=some (.K true (cE e)):=by rw[V,St.j5 (by omega)];exact b1
  have z2:s2.size=n+2:=by rw[V];simp[z1]
  obtain⟨s3,X⟩:=aZ (s2.set (n+1) (.K true (cE y)));have g:=js (e:=y) b2 rfl;rw[<-X]at g;have b3:s3.get (n+1)=some (.K true (cE y)):=by rw[X];exact St.dh
  have z:s3.get n=some (.K true (cE e)):=by rw[X,St.bO (by omega)];exact SA
  have g3:Gr s s3:=⟨by rw[X,V];exact St.wf_set (St.bo g1.wf _) (by simp[z1]) _,by rw[X];simp[z2];omega,λb SK=>by rw[X,St.bO (by omega),V,St.j5 (by omega)];exact g1.2.2 b SK⟩;have C:aa (Z (.ptr n 0)) s3.get=some (J e.k):=ag z rfl;have m1:aa (Z (.ptr n 1)) s3.get=some (J e.v):=ag z rfl;have m2:aa (Z (.ptr n 2)) s3.get=some (J e.i):=ag z rfl;have m3:aa (Z (.ptr n 3)) s3.get=some (J e.t):=ag z rfl;have m4:aa (Z (.ptr n 4)) s3.get=some (J e.f):=ag z rfl;have m5:aa (Z (.ptr n 5)) s3.get=some (J e.o):=ag z rfl;have m6:aa (Z (.ptr n 6)) s3.get=some (I .u32 e.u):=ag z rfl;have m7:aa (Z (.ptr n 7)) s3.get=some (Z (.str e.x)):=ag z rfl;have Sp:∀(u:St) (w:bM),u.get n=some (.K true (cE e))->u.get (n+1)=some (.K true (cE w))->ay 8 (Z (.ptr (n+1) 0)) u.get=some (AE w)/\ay 8 (Z (.ptr n 0)) u.get=some (AE e):=λu w h h'=>⟨eA h',eA h⟩
  have Sn:=MV;by_cases k3:e.k=3
  ·obtain⟨f1,f2⟩:=Sp s3 y z b3
   have Sl:bR e=(decide (0<e.v)&&decide (e=y)):=by
    unfold bR;rw[ae hv,ae (by omega),ae (by omega),af k3,Y,k3]
   rw[Sl];refine⟨s3,?_,g3⟩;rw[k3]at C;have hk:e.k=3:=k3;generalize R (d+3)=r at*;by_cases Sx:e.v<1
   ·have:¬0<e.v:=(by omega);simp[c,D,H,E,v1,N,F,q,g,C,m1,Sx,this]
   ·have h0:0<e.v:=(by omega);have hc:decide (y=e)=decide (e=y):=decide_eq_decide.2 ⟨Eq.symm,Eq.symm⟩;simp[c,D,H,E,v1,N,F,q,g,C,m1,Sx,h0,f1,f2,Sn,hc]
  ·by_cases k2:e.k=2
   ·obtain⟨s9,e9,r9,o9,q9,g9⟩:=mR (n:=n) (m:=n+1) (j:=2) (v := .int .i64 e.i) g3 b3 (by omega) (by rw[mq];omega) (by omega);have Sj:(cE y).set 2 (.int .i64 e.i)=cE { y with i:=e.i }:=rfl;rw[Sj]at r9;rw[z]at q9;obtain⟨f1,f2⟩:=Sp s9 _ q9 r9
    have Sl:bR e=(lj e.i&&decide (e={ y with i:=e.i })):=by
     unfold bR;rw[ae hv,ae (by omega),af k2,Y,k2]
    rw[Sl];refine⟨s9,?_,g9⟩;have o2:=o9 2;rw[m2]at o2;rw[k2]at C;have hc:decide ({ y with i:=e.i }=e)=decide (e={ y with i:=e.i }):=decide_eq_decide.2 ⟨Eq.symm,Eq.symm⟩;generalize({ y with i:=e.i }:bM)=xx,R (d+3)=r at*;by_cases h1:e.i<1
    ·have hid:lj e.i=false:=(by unfold lj;rw[aR (by omega)];rfl);simp[c,D,O,H,E,v1,N,F,q,g,C,m2,e9,o2,h1,hid,bD]
    ·by_cases h2:1073741824<e.i
     ·have hid:lj e.i=false:=(by unfold lj;rw[aR (show ¬e.i<=1073741824 by omega),oy]);simp[c,D,O,H,E,v1,N,F,q,g,C,m2,e9,o2,h1,h2,hid]
     ·have hid:lj e.i=true:=(by unfold lj;rw[aK (show 1<=e.i by omega),aK (show e.i<=1073741824 by omega)];rfl);simp[c,D,O,H,E,v1,N,F,q,g,C,m2,e9,o2,h1,h2,hid,f1,f2,Sn,hc]
   ·by_cases k4:e.k=4
    ·obtain⟨s9,e9,r9,o9,q9,g9⟩:=mR (n:=n) (m:=n+1) (j:=7) (v := .str e.x) g3 b3 (by omega) (by rw[mq];omega) (by omega);have Sj:(cE y).set 7 (.str e.x)=cE { y with x:=e.x }:=rfl;rw[Sj]at r9;rw[z]at q9;obtain⟨Sk,U,Sw⟩:=v7 (l:=e.x) d g9.wf hx;rw[vZ]at U;obtain⟨Su,G⟩:=aZ (Sk.push (.K true (cP bV)));have Sm:aE Sk (a6 [iz,iz,iz,iz,iz,iz])=some (Z (.ptr Sk.size 0),Su):=(by rw[G];rfl);have Sz:Su.get Sk.size=some (.K true (cP bV)):=(by rw[G];exact St.ec);obtain⟨Qs,S⟩:=aZ (Su.set Sk.size (.K true (cP (e3 e.x).1)));have T:=gB (p:=(e3 e.x).1) Sz rfl;rw[<-S]at T;have SB:Gr Sk Qs:=⟨by rw[S,G];exact St.wf_set (St.bo Sw.wf _) (by simp) _,by rw[S,G];simp,λb SK=>by rw[S,St.bO (by omega),G,St.j5 (by omega)]⟩;have gg:=Sw.trans SB;have Sy:Qs.get n=some (.K true (cE e)):=(by rw[gg.2.2 _ (g9.wf.lt q9)];exact q9);have SJ:Qs.get (n+1)=some (.K true (cE { y with x:=e.x })):=(by rw[gg.2.2 _ (g9.wf.lt r9)];exact r9);obtain⟨f1,f2⟩:=Sp Qs _ Sy SJ;have o7:=o9 7;rw[m7]at o7;have p7:aa (Z (.ptr n 7)) Qs.get=some (Z (.str e.x)):=ag Sy rfl
     have Sl:bR e=(decide (e.x.length<=300)&&decide (e={ y with x:=e.x })&&decide ((e3 e.x).2.1=0)):=by
      unfold bR;rw[ae hv,ae (by omega),ae (by omega),ae (by omega),af k4,Y,k4]
     rw[Sl];refine⟨Qs,?_,g9.trans gg⟩;rw[k4]at C;have hc:decide ({ y with x:=e.x }=e)=decide (e={ y with x:=e.x }):=decide_eq_decide.2 ⟨Eq.symm,Eq.symm⟩;have hl:aV (Z (.str e.x))=some (J (e.x.length:Int)):=rfl
     have Ss:decide ((300:Int)<(e.x.length:Int)) = !decide (e.x.length<=300):=by
      by_cases h:e.x.length<=300
      ·rw[aK h,aR (by omega)];rfl
      ·rw[aR h,aK (by omega)];rfl
     simp only[Hr]at U;generalize({ y with x:=e.x }:bM)=xx,(e.x.length:Int)=XL,R (d+3)=r,decide (e.x.length<=300)=Sv at*;by_cases hp:(e3 e.x).2.1=0
     ·rw[hp]at U;cases Sv with
      |true=>
       have Q:decide ((300:Int)<XL)=false:=Ss;simp[c,D,O,H,E,v1,N,F,q,g,C,m7,e9,o7,U,ai,Sm,T,p7,hl,Q,f1,f2,Sn,hc,hp]
      |false=>
       have Q:decide ((300:Int)<XL)=true:=Ss;simp[c,D,O,H,E,v1,N,F,q,g,C,m7,e9,o7,U,ai,Sm,T,p7,hl,Q,hp]
     ·simp[c,D,O,H,E,v1,N,F,q,g,C,m7,e9,o7,U,ai,Sm,T,hp,bD]
    ·by_cases k1:e.k=1
     ·obtain⟨s4,e4,r4,o4,q4,g4⟩:=mR (n:=n) (m:=n+1) (j:=2) (v := .int .i64 e.i) g3 b3 (by omega) (by rw[mq];omega) (by omega);obtain⟨s5,e5,r5,o5,q5,g5⟩:=mR (n:=n) (m:=n+1) (j:=3) (v := .int .i64 e.t) g4 r4 (by omega) (by simp[cE]) (by omega);obtain⟨s6,e6,r6,o6,q6,g6⟩:=mR (n:=n) (m:=n+1) (j:=4) (v := .int .i64 e.f) g5 r5 (by omega) (by simp[cE]) (by omega);obtain⟨s7,e7,r7,o7,q7,g7⟩:=mR (n:=n) (m:=n+1) (j:=5) (v := .int .i64 e.o) g6 r6 (by omega) (by simp[cE]) (by omega);obtain⟨s8,e8,r8,o8,q8,g8⟩:=mR (n:=n) (m:=n+1) (j:=6) (v := .int .u32 e.u) g7 r7 (by omega) (by simp[cE]) (by omega);have Sj:(((((cE y).set 2 (.int .i64 e.i)).set 3 (.int .i64 e.t)).set 4 (.int .i64 e.f)).set 5 (.int .i64 e.o)).set 6 (.int .u32 e.u)=cE { y with i:=e.i,t:=e.t,f:=e.f,o:=e.o,u:=e.u }:=rfl;rw[Sj]at r8;rw[q7,q6,q5,q4,z]at q8;obtain⟨f1,f2⟩:=Sp s8 _ q8 r8;have O5:∀k,aa (Z (.ptr n k)) s5.get=aa (Z (.ptr n k)) s3.get:=λk=>(o5 k).trans (o4 k)
      have O6:∀k,aa (Z (.ptr n k)) s6.get=aa (Z (.ptr n k)) s3.get:=λk=>(o6 k).trans (O5 k)
      have O7:∀k,aa (Z (.ptr n k)) s7.get=aa (Z (.ptr n k)) s3.get:=λk=>(o7 k).trans (O6 k)
      have O8:∀k,aa (Z (.ptr n k)) s8.get=aa (Z (.ptr n k)) s3.get:=λk=>(o8 k).trans (O7 k)
      have Sl:bR e=(decide (e.x=[])&&lj e.i&&decide (0<=e.t)&&decide (e.t<4)&&decide (0<=e.f)&&decide (e.f<e.o)&&decide (e.o<=1099511627776)):=by
       unfold bR;rw[ae hv,af k1]
      have hc:decide ({ y with i:=e.i,t:=e.t,f:=e.f,o:=e.o,u:=e.u }=e)=decide (e.x=[]):=by
       refine decide_eq_decide.2 ⟨λh => ?_,λh => ?_⟩
       ·have:=bw bM.x h;rw[Y]at this;exact this.symm
       ·rw[Y];show bM.mk e.k e.v e.i e.t e.f e.o e.u []=e
        rw[<-h]
      rw[Sl];refine⟨s8,?_,g8⟩;rw[k1]at C;clear o5 o6 o7 o8 r4 r5 r6 r7 q4 q5 q6 q7 Sj;generalize({ y with i:=e.i,t:=e.t,f:=e.f,o:=e.o,u:=e.u }:bM)=xx,R (d+3)=r at*;have hid:lj e.i=(decide (1<=e.i)&&decide (e.i<=1073741824)):=rfl;rw[hid];by_cases h1:e.i<1
      ·have:¬1<=e.i:=(by omega);simp[c,D,O,H,E,v1,N,F,q,g,C,m2,m3,m4,m5,m6,e4,e5,e6,e7,e8,o4,O5,O6,O7,O8,h1,this,bD]
      ·have SC:1<=e.i:=(by omega);by_cases h2:1073741824<e.i
       ·have:¬e.i<=1073741824:=(by omega);simp[c,D,O,H,E,v1,N,F,q,g,C,m2,m3,m4,m5,m6,e4,e5,e6,e7,e8,o4,O5,O6,O7,O8,h1,h2,this,bD]
       ·have SD:e.i<=1073741824:=(by omega);by_cases h3:e.t<0
        ·have:¬0<=e.t:=(by omega);simp[c,D,O,H,E,v1,N,F,q,g,C,m2,m3,m4,m5,m6,e4,e5,e6,e7,e8,o4,O5,O6,O7,O8,h1,h2,h3,this,bD]
        ·have SE:0<=e.t:=(by omega);by_cases h4:3<e.t
         ·have:¬e.t<4:=(by omega);simp[c,D,O,H,E,v1,N,F,q,g,C,m2,m3,m4,m5,m6,e4,e5,e6,e7,e8,o4,O5,O6,O7,O8,h1,h2,h3,h4,this,bD]
         ·have SF:e.t<4:=(by omega);by_cases h5:e.f<0
          ·have:¬0<=e.f:=(by omega);simp[c,D,O,H,E,v1,N,F,q,g,C,m2,m3,m4,m5,m6,e4,e5,e6,e7,e8,o4,O5,O6,O7,O8,h1,h2,h3,h4,h5,this,bD]
          ·have SG:0<=e.f:=(by omega);by_cases h6:e.o<=e.f
           ·have:¬e.f<e.o:=(by omega);simp[c,D,O,H,E,v1,N,F,q,g,C,m2,m3,m4,m5,m6,e4,e5,e6,e7,e8,o4,O5,O6,O7,O8,h1,h2,h3,h4,h5,h6,this,bD]
           ·have SH:e.f<e.o:=(by omega);by_cases h7:1099511627776<e.o
            ·have:¬e.o<=1099511627776:=(by omega);simp[c,D,O,H,E,v1,N,F,q,g,C,m2,m3,m4,m5,m6,e4,e5,e6,e7,e8,o4,O5,O6,O7,O8,h1,h2,h3,h4,h5,h6,h7,this,bD]
            ·have SI:e.o<=1099511627776:=(by omega);simp[c,D,O,H,E,v1,N,F,q,g,C,m2,m3,m4,m5,m6,e4,e5,e6,e7,e8,o4,O5,O6,O7,O8,h1,h2,h3,h4,h5,h6,h7,SC,SD,SE,SF,SG,SH,SI,f1,f2,Sn,hc]
     ·have Sl:bR e=false:=by
       unfold bR;rw[ae hv,ae k1,ae k2,ae k3,ae k4]
      rw[Sl];refine⟨s3,?_,g3⟩;generalize R (d+3)=r at*;simp[c,D,O,H,E,v1,N,F,q,g,C,k1,k2,k3,k4]
end
section
variable {s t:St}{x y:S}{bs cs:List UInt8}
theorem cn(d:Nat)(p:s.wf)(n:Nat)(i:n<2 ^ 64):∃t,R (d+1) 71 [J6 n] s=some (Z (.str (aq n)),t)/\Gr s t:=by
 rw[NC];unfold f71;obtain⟨m,x,acc,f,l,g,q,b⟩:=yl (R d) p n i;have c:loops (Kg (R d) 8192) 8192 [J6 n,Z .av] s=some (.exit 0 [J6 m,Z x],f):=l;have o:=KO f m;have h:(UInt8.ofNat m).toNat=m:=by rw[ey];omega
 obtain⟨x',t,e,a,_⟩:=FB.lit g (cs:=[UInt8.ofNat m]) (by simp;omega);rw[b.1]at a;refine⟨t,?_,a.gr⟩;have k:IntKind.u8.wrap (m:Int)=(m:Int):=by rw[gx];omega
 have j:=RB.str a.rd;simp only[U,eE,jz,bB,dO,a7,h]at e;simp[c,k,o,e,j]
theorem Bo(d:Nat)(l:s.wf)(q:Nat):∃t,R (d+1) 74 [I .u32 q] s=some (Z (.str (four q)),t)/\Gr s t:=by
 rw[NG];unfold f74;have a:=PS s (q%256) (q / 2 ^ 8%256) (q / 2 ^ 16%256) (q / 2 ^ 24%256)
 have m:U (four q)=[.int .u8 (q%256:Nat),.int .u8 (q / 2 ^ 8%256:Nat),.int .u8 (q / 2 ^ 16%256:Nat),.int .u8 (q / 2 ^ 24%256:Nat)]:=by
  simp only[U,four,eE,jz,ey]
 rw[<-m]at a;have f:=gx q;have b:=gx (q / 2 ^ 8);have c:=gx (q / 2 ^ 16);have e:=gx (q / 2 ^ 24);have i:ah .shr (I .u32 q) (J6 8)=some (I .u32 ((q / 2 ^ 8:Nat))):=gW .u32 q 8 (by decide);have j:ah .shr (I .u32 q) (J6 16)=some (I .u32 ((q / 2 ^ 16:Nat))):=gW .u32 q 16 (by decide);have k:ah .shr (I .u32 q) (J6 24)=some (I .u32 ((q / 2 ^ 24:Nat))):=gW .u32 q 24 (by decide);have g:Gr s (s.push (.K true (U (four q)))):=Gr.push l _;have rd:RB (s.push (.K true (U (four q)))) (.sl s.size 0 4 (.known 4)) (four q):=(Fr.lit 1 l (n:=4) (vs:=U (four q)) rfl).rd;have h:=rd.str;refine⟨_,?_,g⟩;generalize s.push (.K true (U (four q)))=t at a h ⊢;generalize((q / 2 ^ 8%256:Nat):Int)=v at a b;generalize((q / 2 ^ 16%256:Nat):Int)=w at a c;generalize((q / 2 ^ 24%256:Nat):Int)=x at a e;generalize((q%256:Nat):Int)=u at a f;generalize((q / 2 ^ 8:Nat):Int)=o at i b;generalize((q / 2 ^ 16:Nat):Int)=p at j c;generalize((q / 2 ^ 24:Nat):Int)=r at k e;simp[f,b,c,e,i,j,k,a,h]
theorem wg(d:Nat)(Q:bs.length<=8000):R (d+2) 75 [Z (.str bs)] s=some (I .u32 (cB 1 bs),s):=by
 have w:R (d+1) 117 [I .u32 1,Z (.str bs)] s=some (I .u32 (cB 1 bs),s):=by
  rw[Ji];unfold f117;have b:=zb bs
  obtain⟨j,S,K,B,t⟩:=aL (f:=tV (R d) 8192) (λq v u=>∃k n:Nat,q+k=bs.length/\v=[Z (.str bs),J6 n,J k]/\u=s/\n<4294967291/\cB n (bs.drop k)=cB 1 bs)
   (λj u=>j = .exit 0 [J6 (cB 1 bs)]/\u=s) (by
   rintro q v u ⟨k,n,P,rfl,rfl,E,c⟩;by_cases a:k<bs.length
   ·left;have z:bs[k]? = some bs[k]:=aU a;have A:bs.drop k=bs[k]::bs.drop (k+1):=cU a;rw[A]at c;have H:=jU (n:=(k:Int)) rfl z;have p:bs[k].toNat<256:=bs[k].toNat_lt
    obtain⟨e,g,h,i,o,L,M,N,O⟩:∃e g h i:Int,i=(((n*257+bs[k].toNat+1)%4294967291:Nat):Int)/\ah .mul (J6 n) (J6 257)=some (J6 e)/\ah .add (J6 e) (J6 bs[k].toNat)=some (J6 g) ∧
     ah .add (J6 g) (J6 1)=some (J6 h)/\ah .rem (J6 h) (J6 4294967291)=some (J6 i):=⟨_,_,_,_,rfl,Pq.step n bs[k].toNat E p u⟩
    have G:IntKind.u64.wrap (bs[k].toNat:Int)=(bs[k].toNat:Int):=wrap64 _ (by omega);have w1:IntKind.i64.wrap ((k:Int)+1)=((k+1:Nat):Int):=(by rw[aw _ (by omega) (by omega)];omega);have l:((k:Int)<(bs.length:Int))=True:=dm (by omega);refine⟨[Z (.str bs),J6 (((n*257+bs[k].toNat+1)%4294967291:Nat)),J ((k+1:Nat):Int)],u,q-1,?_,by omega,k+1,_,by omega,rfl,rfl,di _ (by decide),c⟩;unfold tV;rw[<-o];simp only[jk,dt,ou,vD,nT,nU,oa,n4,Bw,lh,gi,b,zc,fk,decide_true,l,H,L,M,N,O,aY,G,cw,w1]
   ·right;have C:k=bs.length:=(by omega);have l:¬((k:Int)<(bs.length:Int)):=by omega
    have r:n=cB 1 bs:=by
     rw[ja (by omega)]at c;exact c
    refine⟨.exit 0 [J6 (cB 1 bs)],u,?_,(λv F=>by cases F),rfl,rfl⟩;unfold tV;rw[r];simp[b,l]) 8192 bs.length [Z (.str bs),J6 1,J 0] s ⟨0,1,rfl,rfl,rfl,by decide,rfl⟩ (by omega)
  subst B;subst t;have D:=q8 bs 1 (by decide);have m:IntKind.u32.wrap (cB 1 bs:Int)=(cB 1 bs:Int):=by rw[wrap32,eU (by omega)]
  have x:az .u64 (I .u32 1)=some (J6 1):=rfl;have y:ah .rem (J6 1) (J6 4294967291)=some (J6 1):=rfl;simp[x,y,K,m]
 rw[NH];unfold f75;simp[w]
theorem Hv(r:bc)(N:Nat)(hl:bs.length<=100000){at_:Nat}(ha:at_<=100000)(res:Option (Nat×Nat))(X:mC bs at_ 10 0 0=res) :
 loops (kJ r N) 8192 [Z (.str bs),J at_,J6 0,J 0] s=some (Pj at_ res,s):=by
 obtain⟨j,Ss,lp,hj,Sl⟩:=aL (f:=kJ r N) (λq v u=>∃k n:Nat,q+k=10/\v=[Z (.str bs),J at_,J6 n,J k]/\u=s/\n<2 ^ 64/\mC bs at_ q k n=res)
  (λj u=>j=Pj at_ res/\u=s) (by
  rintro q v u ⟨k,n,hk,rfl,rfl,hn,y⟩;have t:=zb bs;cases q with
  |zero=>
   right;have Sj:k=10:=by omega
   subst Sj;have:res=none:=by rw[<-y];rfl
   subst this;refine⟨.exit 0 [J at_],u,?_,(λv O=>by cases O),rfl,rfl⟩;unfold kJ;simp
  |succ q=>
   have H:((k:Int)<10)=True:=dm (by omega);have w0:IntKind.i64.wrap ((at_:Int)+k)=((at_+k:Nat):Int):=by rw[aw _ (by omega) (by omega)];omega
   unfold mC at y;cases U:bs[at_+k]? with
   |none=>
    rw[U]at y;subst y;right;have Sp:bs.length<=at_+k:=by simpa using U
    have z:(((at_+k:Nat):Int)<(bs.length:Int))=False:=gY (by omega);refine⟨.exit 0 [J at_],u,?_,(λv O=>by cases O),rfl,rfl⟩;unfold kJ;generalize((at_+k:Nat):Int)=A at w0 z ⊢;generalize(k:Int)=K at*;simp[H,w0,t,z]
   |some c=>
    rw[U]at y;simp only at y;have Sr:=(bq.1 U).1;have z:(((at_+k:Nat):Int)<(bs.length:Int))=True:=dm (by omega);have D:=jU (n:=((at_+k:Nat):Int)) rfl U;have Sn:c.toNat<256:=c.toNat_lt;have w:IntKind.u64.wrap (c.toNat:Int)=(c.toNat:Int):=wrap64 _ (by omega)
    have hand:ah .and (J6 c.toNat) (J6 127)=some (J6 (c.toNat%128:Nat)):=by
     have:=Ex c.toNat 127 (by omega) (by decide);rw[show(c.toNat &&& 127:Nat)=c.toNat%128 from zQ c.toNat 7]at this;exact this
    have g:IntKind.i64.wrap (7*(k:Int))=((7*k:Nat):Int):=(by rw[aw _ (by omega) (by omega)];omega);have o:IntKind.u64.wrap ((7*k:Nat):Int)=((7*k:Nat):Int):=wrap64 _ (by omega);have w1:IntKind.i64.wrap ((k:Int)+1)=((k+1:Nat):Int):=(by rw[aw _ (by omega) (by omega)];omega);have S:IntKind.i64.wrap (((at_+k:Nat):Int)+1)=((at_+k+1:Nat):Int):=(by rw[aw _ (by omega) (by omega)];omega);by_cases Y:k=9/\1<c.toNat
    ·rw[af Y]at y;subst y;right;have d9:((k:Int)=9)=True:=dm (by omega);have E:((1:Int)<(c.toNat:Int))=True:=dm (by omega);refine⟨.exit 0 [J at_],u,?_,(λv O=>by cases O),rfl,rfl⟩;unfold kJ;generalize((at_+k:Nat):Int)=A at w0 z D ⊢;generalize(k:Int)=K,(c.toNat:Int)=C at*;simp[H,w0,t,z,D,w,d9,E]
    ·rw[ae Y]at y
     have G:c.toNat%128*2 ^ (7*k)<2 ^ 64:=by
      by_cases x:k=9
      ·subst x;have:c.toNat%128<=1:=by omega
       calc c.toNat%128*2 ^ (7*9)<=1*2 ^ 63:=dx _ this
        _<2 ^ 64:=by decide
      ·have Sk:7*k<=56:=(by omega);have F:c.toNat%128<2 ^ 7:=by omega
       calc c.toNat%128*2 ^ (7*k)<=c.toNat%128*2 ^ 56:=zU _ (ng (by omega) Sk)
        _<2 ^ 64:=by omega
     have d:=uq (c.toNat%128) (7*k) G (by omega);have e:=Du n (c.toNat%128*2 ^ (7*k)) hn G;have V:(n ||| c.toNat%128*2 ^ (7*k))<2 ^ 64:=lN hn G;obtain⟨M,hM⟩:=aZ ((n ||| c.toNat%128*2 ^ (7*k)));rw[<-hM]at e V y
     have B:((k:Int)=9)=False\/(((k:Int)=9)=True/\((1:Int)<(c.toNat:Int))=False):=by
      by_cases x:k=9
      ·exact .inr ⟨dm (by omega),gY (λh=>Y ⟨x,by omega⟩)⟩
      ·exact .inl (gY (by omega))
     by_cases F:128<=c.toNat
     ·rw[af F]at y;left;have E:((c.toNat:Int)<(128:Int))=False:=gY (by omega);refine⟨[Z (.str bs),J at_,J6 M,J ((k+1:Nat):Int)],u,q,?_,rfl,k+1,M,by omega,rfl,rfl,V,y⟩;generalize((k+1:Nat):Int)=K1 at w1 ⊢;unfold kJ;generalize((c.toNat%128*2 ^ (7*k):Nat):Int)=SH at d e;generalize((c.toNat%128:Nat):Int)=L at hand d;generalize((7*k:Nat):Int)=K7 at g o d;generalize((at_+k:Nat):Int)=A at w0 z D;generalize(k:Int)=K,(c.toNat:Int)=C at*;rcases B with x | ⟨x,R⟩
      ·simp[H,w0,t,z,D,w,x,hand,g,o,d,e,E,w1]
      ·simp[H,w0,t,z,D,w,x,R,hand,g,o,d,e,E,w1]
     ·rw[ae F]at y;right;have E:((c.toNat:Int)<(128:Int))=True:=dm (by omega);by_cases hz:0<k/\c.toNat=0
      ·rw[af hz]at y;subst y;have Q:((0:Int)<(k:Int))=True:=dm (by omega);have T:((c.toNat:Int)=0)=True:=dm (by omega);refine⟨.exit 0 [J at_],u,?_,(λv O=>by cases O),rfl,rfl⟩;unfold kJ;generalize((c.toNat%128*2 ^ (7*k):Nat):Int)=SH at d e;generalize((c.toNat%128:Nat):Int)=L at hand d;generalize((7*k:Nat):Int)=K7 at g o d;generalize((at_+k:Nat):Int)=A at w0 z D;generalize(k:Int)=K,(c.toNat:Int)=C at*;rcases B with x | ⟨x,R⟩
       ·simp[H,w0,t,z,D,w,x,hand,g,o,d,e,E,Q,T]
       ·simp[H,w0,t,z,D,w,x,R,hand,g,o,d,e,E,Q,T]
      ·rw[ae hz]at y;subst y;refine⟨.ret (.c6 [.s (.int .u64 M),.s (.int .i64 ((at_+k+1:Nat):Int)),.s (iz)]),u,?_,(λv O=>by cases O),rfl,rfl⟩
       have I:((c.toNat:Int)=0)=False\/(((c.toNat:Int)=0)=True/\((0:Int)<(k:Int))=False):=by
        by_cases Sm:c.toNat=0
        ·exact .inr ⟨dm (by omega),gY (λh=>hz ⟨by omega,Sm⟩)⟩
        ·exact .inl (gY (by omega))
       unfold kJ;generalize((c.toNat%128*2 ^ (7*k):Nat):Int)=SH at d e;generalize((c.toNat%128:Nat):Int)=L at hand d;generalize((7*k:Nat):Int)=K7 at g o d;generalize((at_+k+1:Nat):Int)=A1 at S ⊢;generalize((at_+k:Nat):Int)=A at w0 S z D;generalize(k:Int)=K,(c.toNat:Int)=C at*;rcases B with x | ⟨x,R⟩<;>rcases I with Q | ⟨Q,T⟩
       ·simp[H,w0,t,z,D,w,x,hand,g,o,d,e,E,Q,S,aD,a8]
       ·simp[H,w0,t,z,D,w,x,hand,g,o,d,e,E,Q,T,S,aD,a8]
       ·simp[H,w0,t,z,D,w,x,R,hand,g,o,d,e,E,Q,S,aD,a8]
       ·simp[H,w0,t,z,D,w,x,R,hand,g,o,d,e,E,Q,T,S,aD,a8]) 8192 10 [Z (.str bs),J at_,J6 0,J 0] s ⟨0,0,rfl,rfl,rfl,by decide,X⟩ (by omega)
 subst Sl;subst hj;exact lp
theorem B8(d:Nat)(r:bs.length<=100000){at_:Nat}(q:at_<=100000):R (d+1) 100 [Z (.str bs),J at_] s=some (mf at_ bs.length (fY bs at_),s):=by
 rw[I3];unfold f100;have g:=zb bs;have k:¬(at_:Int)<0:=by omega
 by_cases c:at_<=bs.length
 ·have h:¬(bs.length:Int)<(at_:Int):=by omega
  have j:=Hv (s:=s) (R d) 8192 r q _ rfl;unfold fY;rw[af c];cases o:mC bs at_ 10 0 0 with
  |none=>
   rw[o]at j;simp[k,h,g,j,Pj,mf,c,aD,a8]
  |some p=>
   obtain⟨n,e⟩:=p;rw[o]at j;simp[k,h,g,j,Pj,mf]
 ·have h:(bs.length:Int)<(at_:Int):=by omega
  unfold fY;rw[ae c];simp[k,h,g,mf,c,aD,a8]
end
section
variable {s t:St}{x y:S}{l:Bs}{i c:Nat}
abbrev DH(o:Option Bs):T:=match o with
 |some b => .c6 [.s (.str b),.s (iz)]
 |none => .c6 [.s (.str []),.s (.int .i64 1)]
theorem Ch(d:Nat)(SR:s.wf)(e:bM)(hw:nI e)(hx:e.x.length<=8000):∃t,R (d+5) 89 [AE e] s=some (DH (ct e),t)/\Gr s t:=by
 rw[NM];unfold f89;obtain⟨n,hn⟩:=aZ (s.size);obtain⟨s1,O⟩:=aZ (s.push (.K true (cE e)));have E:aE s (b6 (AE e))=some (Z (.ptr n 0),s1):=by rw[O,hn];rfl
 have g1:Gr s s1:=by rw[O];exact Gr.push SR _
 have z1:s1.size=n+1:=by rw[O,hn];rfl
 have b1:s1.get n=some (.K true (cE e)):=by rw[O,hn];exact St.ec
 have l8:=eA (g:=s1.get) b1;obtain⟨Y,e2,g2⟩:=x5 d g1.wf e hx;cases Sk:bR e with
 |false=>
  rw[Sk]at e2;have hp:ct e=none:=by unfold ct;rw[Sk];rfl
  rw[hp];refine⟨Y,?_,g1.trans g2⟩;generalize R (d+4)=r at*;simp[E,l8,e2,aD,a8]
 |true=>
  rw[Sk]at e2;have hp:ct e=some (bF e):=by unfold ct;rw[Sk];rfl
  rw[hp];obtain⟨r1,r2,r3,r4,SL,SM,SN,SO⟩:=eN Sk;have keep:∀{u:St},Gr s1 u->∀(j:Nat) (v:S),(cE e)[j]? = some v->aa (Z (.ptr n j)) u.get=some (Z v):=λg j v hv=>ag (g.get b1 g1.wf) hv
  have SH:∀j,ab j (Z (.ptr n 0))=some (Z (.ptr n j)):=λj=>by simp[ab]
  have wk:IntKind.u8.wrap e.k=((UInt8.ofNat e.k.toNat).toNat:Int):=by
   have:=gx e.k.toNat;rw[show(e.k.toNat:Int)=e.k by omega]at this;rw[this,ey]
  obtain⟨D,SF⟩:=aZ (UInt8.ofNat e.k.toNat);rw[<-SF]at wk;obtain⟨s4,SG⟩:=aZ (Y.push (.K true (U [D])));have X:aE Y (aN 1 (aA [.int .u8 0] [(0,1,J8 D.toNat)]))=some (Z (.sl Y.size 0 1 (.known 1)),s4):=by rw[SG,KO];rfl
  have f4:FB Y s4 (.sl Y.size 0 1 (.known 1)) [D]:=by rw[SG];exact Fr.lit 1 g2.wf rfl
  have G:bQ (Z (.sl Y.size 0 1 (.known 1))) s4.get=some (Z (.str [D])):=RB.str f4.rd;obtain⟨s5,e5,g5⟩:=cn (d+3) f4.gr.wf e.v.toNat (by omega);have H:bQ (Z (.sl Y.size 0 1 (.known 1))) s5.get=some (Z (.str [D])):=RB.str (Rd.gr f4.rd (λc hc=>(f4.new c hc).2) g5);have wv:IntKind.u64.wrap e.v=(e.v.toNat:Int):=by rw[bH _ (by omega) (by omega)];omega
  have SD:=g2.trans f4.gr;have q:=SD.trans g5;have Q:=keep g2 0 _ rfl;have V:=keep SD 1 _ rfl;have T:=keep q 0 _ rfl;have N:cl 9 s5.get (wC 3 Y.size (aN 1 (aA [.int .u8 0] [(0,1,J8 D.toNat)])) [])=s5.get:=rfl;have vl:=aX e.v.toNat;have z:ah .add (Z (.str [D])) (Z (.str (aq e.v.toNat)))=some (Z (.str ([D]++aq e.v.toNat))):=b7 _ _ (by simp;omega);have hA:([D]++aq e.v.toNat).length<=12:=by simp;omega
  have I:bF e=([D]++aq e.v.toNat)++dc (dU e)++e.x:=by rw[SF];simp[bF]
  obtain⟨acc,SE⟩:=aZ ([D]++aq e.v.toNat);rw[<-SE]at z hA I;simp only[aH,Nat.reduceAdd]at e5
  have num:∀(u:St) (a:Bs) (m:Nat),Gr s1 u->a.length<=1000->m<2 ^ 64->∃u',R (d+4) 71 [J6 m] u=some (Z (.str (aq m)),u')/\ah .add (Z (.str a)) (Z (.str (aq m)))=some (Z (.str (a++aq m)))/\Gr s1 u':=λu a m g ha Sk=>by
   obtain⟨u',e,g'⟩:=cn (d+3) g.wf m Sk;have:=aX m;exact⟨u',e,b7 _ _ (by omega),g.trans g'⟩
  have y:∀m:Int,¬e.k=m->ah .eql (J e.k) (J m)=some (B false):=λm h=>by rw[eS,aR h]
  have Sj:∀m:Int,e.k=m->ah .eql (J e.k) (J m)=some (B true):=λm h=>by rw[eS,aK h]
  rcases (by omega:e.k=1\/e.k=2\/e.k=3\/e.k=4)with hk | hk | hk | hk
  ·obtain⟨C,SW,SX,SZ,t1,SV,f1,SY⟩:=SL hk;obtain⟨w0,w1⟩:=hw;have wi:IntKind.u64.wrap e.i=(e.i.toNat:Int):=by rw[bH _ (by omega) (by omega)];omega
   have wt:IntKind.u64.wrap e.t=(e.t.toNat:Int):=by rw[bH _ (by omega) (by omega)];omega
   have SR:IntKind.u64.wrap e.f=(e.f.toNat:Int):=by rw[bH _ (by omega) (by omega)];omega
   have wo:IntKind.u64.wrap e.o=(e.o.toNat:Int):=by rw[bH _ (by omega) (by omega)];omega
   have wu:IntKind.u64.wrap e.u=(e.u.toNat:Int):=by rw[bH _ (by omega) (by omega)];omega
   obtain⟨u6,e6,a6,F⟩:=num s5 (acc) e.i.toNat q (by   omega) (by omega);obtain⟨u7,e7,a7,g7⟩:=num u6 (acc++aq e.i.toNat) e.t.toNat F (by have:=aX e.i.toNat;simp only[aI];omega) (by omega);obtain⟨u8,e8,SU,g8⟩:=num u7 (acc++aq e.i.toNat++aq e.t.toNat) e.f.toNat g7 (by have:=aX e.i.toNat;have:=aX e.t.toNat;simp only[aI];omega) (by omega);obtain⟨u9,e9,a9,g9⟩:=num u8 (acc++aq e.i.toNat++aq e.t.toNat++aq e.f.toNat) e.o.toNat g8 (by have:=aX e.i.toNat;have:=aX e.t.toNat;have:=aX e.f.toNat;simp only[aI];omega) (by omega);obtain⟨SQ,SJ,SI,SK⟩:=num u9 (acc++aq e.i.toNat++aq e.t.toNat++aq e.f.toNat++aq e.o.toNat) e.u.toNat g9 (by have:=aX e.i.toNat;have:=aX e.t.toNat;have:=aX e.f.toNat;have:=aX e.o.toNat;simp only[aI];omega) (by omega)
   have w:bF e=acc++aq e.i.toNat++aq e.t.toNat++aq e.f.toNat++aq e.o.toNat++aq e.u.toNat:=by
    rw[I,C];simp[dU,hk,dc]
   have Sl:=keep q 2 _ rfl;have Sm:=keep q 3 _ rfl;have Sn:=keep F 3 _ rfl;have Sp:=keep q 4 _ rfl;have Sr:=keep F 4 _ rfl;have Ss:=keep g7 4 _ rfl;have Su:=keep q 5 _ rfl;have Sv:=keep F 5 _ rfl;have Sw:=keep g7 5 _ rfl;have Sx:=keep g8 5 _ rfl;have Sy:=keep q 6 _ rfl;have Sz:=keep F 6 _ rfl;have SA:=keep g7 6 _ rfl;have SB:=keep g8 6 _ rfl;have SC:=keep g9 6 _ rfl;have E1:=Sj 1 hk;refine⟨SQ,?_,g1.trans SK⟩;rw[w];generalize acc++aq e.i.toNat++aq e.t.toNat++aq e.f.toNat++aq e.o.toNat++aq e.u.toNat=SS at*;generalize acc++aq e.i.toNat++aq e.t.toNat++aq e.f.toNat++aq e.o.toNat=A9 at*;generalize acc++aq e.i.toNat++aq e.t.toNat++aq e.f.toNat=A8 at*;generalize acc++aq e.i.toNat++aq e.t.toNat=A7 at*;generalize acc++aq e.i.toNat=A6 at*;clear num hA I vl r1 r2 keep;generalize(e.v.toNat:Int)=EV,(e.i.toNat:Int)=Ni,(e.t.toNat:Int)=Nt,(e.f.toNat:Int)=Nf,(e.o.toNat:Int)=No,(e.u.toNat:Int)=Nu,R (d+4)=r at*;simp[-eS,E,l8,e2,SH,Q,wk,X,G,V,wv,e5,z,N,T,H,E1,Sl,Sm,Sn,Sp,Sr,Ss,Su,Sv,Sw,Sx,Sy,Sz,SA,SB,SC,wi,wt,SR,wo,wu,e6,e7,e8,e9,SJ,a6,a7,SU,a9,SI,aD,a8]
  ·obtain⟨q1,q2,q3⟩:=SM hk;have wi:IntKind.u64.wrap e.i=(e.i.toNat:Int):=by rw[bH _ (by omega) (by omega)];omega
   obtain⟨u6,e6,a6,F⟩:=num s5 acc e.i.toNat q (by omega) (by omega)
   have w:bF e=acc++aq e.i.toNat:=by
    have C:e.x=[]:=(by rw[q3];rfl);rw[I,C];simp[dU,hk,dc]
   have l2:=keep q 2 _ rfl;refine⟨u6,?_,g1.trans F⟩;rw[w];clear num hA I vl r1 r2 keep;generalize(e.v.toNat:Int)=EV,(e.i.toNat:Int)=EI,R (d+4)=r at*;have E1:=y 1 (by omega);have E2:=Sj 2 hk;simp[-eS,E,l8,e2,SH,Q,wk,X,G,V,wv,e5,z,N,T,H,E1,E2,l2,wi,e6,a6,aD,a8]
  ·have w:bF e=acc:=by
    have C:e.x=[]:=(by rw[(SN hk).2];rfl);rw[I,C];simp[dU,hk,dc]
   refine⟨s5,?_,g1.trans q⟩;rw[w];clear num hA I vl r1 r2 keep;generalize(e.v.toNat:Int)=EV,(e.i.toNat:Int)=EI,R (d+4)=r at*;have E1:=y 1 (by omega);have E2:=y 2 (by omega);have E4:=y 4 (by omega);simp[-eS,E,l8,e2,SH,Q,wk,X,G,V,wv,e5,z,N,T,H,E1,E2,E4,aD,a8]
  ·obtain⟨q1,q2,q3⟩:=SO hk;obtain⟨u6,e6,a6,F⟩:=num s5 acc e.x.length q (by omega) (by omega)
   have w:bF e=acc++aq e.x.length++e.x:=by
    rw[I];simp[dU,hk,dc]
   have l7:=keep q 7 _ rfl;have SP:=keep F 7 _ rfl;have hl:aV (Z (.str e.x))=some (J (e.x.length:Int)):=rfl;have wx:IntKind.u64.wrap (e.x.length:Int)=(e.x.length:Int):=wrap64 _ (by omega);have a7:ah .add (Z (.str (acc++aq e.x.length))) (Z (.str e.x))=some (Z (.str (acc++aq e.x.length++e.x))):=b7 _ _ (by have:=aX e.x.length;simp;omega);refine⟨u6,?_,g1.trans F⟩;rw[w];generalize acc++aq e.x.length++e.x=A7 at*;generalize acc++aq e.x.length=A6 at*;have E1:=y 1 (by omega);have E2:=y 2 (by omega);have E4:=Sj 4 hk;generalize(e.x.length:Int)=XL at*;clear num hA I vl r1 r2 keep;generalize(e.v.toNat:Int)=EV,(e.i.toNat:Int)=EI,R (d+4)=r at*;simp[-eS,E,l8,e2,SH,Q,wk,X,G,V,wv,e5,z,N,T,H,E1,E2,E4,l7,hl,wx,e6,a6,SP,a7,aD,a8]
end
section
variable {s t:St}{x y:S}{l m:List bM}{i c:Nat}
theorem vX(d:Nat)(Y:s.wf)(e:bM)(S:nI e)(T:e.x.length<=8000):∃t,R (d+6) 35 [AE e] s=some (DH (dW e),t)/\Gr s t:=by
 rw[Nc];unfold f35;obtain⟨s1,c⟩:=aZ (s.push (.K true (cE e)));have o:aE s (b6 (AE e))=some (Z (.ptr s.size 0),s1):=by rw[c];rfl
 have q:Gr s s1:=by rw[c];exact Gr.push Y _
 have N:s1.get s.size=some (.K true (cE e)):=by rw[c];exact St.ec
 have F:=eA (g:=s1.get) N;obtain⟨U,h,u⟩:=Ch d q.wf e S T;cases k:bR e with
 |false=>
  have z:ct e=none:=by unfold ct;rw[k];rfl
  have w:dW e=none:=by unfold dW;rw[k];rfl
  rw[z]at h;rw[w];refine⟨U,?_,q.trans u⟩;simp only[DH]at h;generalize R (d+5)=r at*;simp[o,F,h,ai,aD,a8]
 |true=>
  have z:ct e=some (bF e):=by unfold ct;rw[k];rfl
  have w:dW e=some (e5 (bF e)):=by unfold dW;rw[k];rfl
  rw[z]at h;rw[w];simp only[DH]at h;have hl:=KV k;obtain⟨V,B,E⟩:=cn (d+4) u.wf (bF e).length (by omega);have vl:=aX (bF e).length;have y:aV (Z (.str (bF e)))=some (J ((bF e).length:Int)):=rfl;have wl:IntKind.u64.wrap ((bF e).length:Int)=((bF e).length:Int):=wrap64 _ (by omega);have G:=b7 (aq (bF e).length) (bF e) (by omega);have C:=wg (bs:=aq (bF e).length++bF e) (s:=V) (d+3) (by simp;omega);obtain⟨X,D,O⟩:=Bo (d+4) E.wf (cB 1 (aq (bF e).length++bF e));have j:∀n,(four n).length=4:=λ_=>rfl
  have H:=b7 (aq (bF e).length) (four (cB 1 (aq (bF e).length++bF e))) (by rw[j];omega);have I:=b7 (aq (bF e).length++four (cB 1 (aq (bF e).length++bF e))) (bF e) (by simp[j];omega);have Q:e5 (bF e)=aq (bF e).length++four (cB 1 (aq (bF e).length++bF e))++bF e:=rfl;rw[Q];simp only[aH,Nat.reduceAdd]at B C D;refine⟨X,?_,((q.trans u).trans E).trans O⟩;generalize R (d+5)=r at*;simp[o,F,h,ai,y,wl,B,G,C,D,H,I,aD,a8]
abbrev RO(p:Bs×Int):T := .c6 [.s (.str p.1),.s (.int .i64 p.2)]
theorem j3:∀(l:List bM) (k:Nat),(bj (l.take k)).length<=(bj l).length
 | [],k=>by simp
 |e::r,0=>by simp[bj]
 |e::r,k+1=>by
  have:=j3 r k;rw[uG,bj,bj,aI,aI];omega
theorem B3(d:Nat)(Sl:s.wf)(h:RE s x l)(F:∀c,own x=some c->c<s.size)(hw:∀e∈l,nI e)(I:∀e∈l,e.x.length<=8000)(hl:l.length<=2000)(hF:(bj l).length<=90000):∃t,R (d+7) 8 [Z x] s=some (RO (yw l),t)/\Gr s t:=by
 rw[PH];unfold f8;have w:=h.lens
 obtain⟨j,Sm,V,hj,D⟩:=aL (f:=Bj (R (d+6)) 8192) (λq v u=>∃k:Nat,q+k=l.length/\v=[Z x,Z (.str (bj (l.take k))),J k]/\Gr s u/\(l.take k).all bR=true)
  (λj u=>(j = .exit 0 [Z x,Z (.str (bj l))]/\l.all bR=true\/j = .ret (.c6 [.s (.str []),.s (.int .i64 1)])/\l.all bR=false)/\Gr s u) (by
  rintro q v u ⟨k,hk,rfl,g,z⟩;by_cases o:k<l.length
  ·obtain⟨p,T,U⟩:=RE.QC (h.gr F g) (n:=(k:Int)) rfl (aU o);obtain⟨X,B,Q⟩:=vX d g.wf l[k] (hw _ (mY o)) (I _ (mY o));have S:=Ge l k l[k] (aU o) z;have O:(k:Int)<(l.length:Int):=by omega
   have w1:IntKind.i64.wrap ((k:Int)+1)=((k+1:Nat):Int):=by rw[aw _ (by omega) (by omega)];omega
   cases y:bR l[k]with
   |true=>
    left;have C:dW l[k]=some (e5 (bF l[k])):=(by simp[dW,y]);rw[C]at B;simp only[DH]at B;have Sk:=pO C;have Sj:=j3 l k;have G:l.take (k+1)=l.take k++[l[k]]:=(by rw[cM,aU o];rfl);have N:=b7 (bj (l.take k)) (e5 (bF l[k])) (by omega);rw[<-mA,<-G]at N;refine⟨[Z x,Z (.str (bj (l.take (k+1)))),J ((k+1:Nat):Int)],X,q-1,?_,by omega,k+1,by omega,rfl,g.trans Q,S.2 y⟩;unfold Bj;generalize R (d+6)=r at*;simp[w,O,T,U,B,ai,N,w1]
   |false=>
    right;have C:dW l[k]=none:=(by simp[dW,y]);rw[C]at B;simp only[DH]at B;refine⟨.ret (.c6 [.s (.str []),.s (.int .i64 1)]),X,?_,(λv H=>by cases H),.inr ⟨rfl,S.1 y⟩,g.trans Q⟩;unfold Bj;generalize R (d+6)=r at*;simp[w,O,T,U,B,ai,aD,a8]
  ·right;have E:k=l.length:=by omega
   subst E;rw[dE]at z;refine⟨.exit 0 [Z x,Z (.str (bj l))],u,?_,(λv H=>by cases H),.inl ⟨rfl,z⟩,g⟩;rw[dE];unfold Bj;simp[w]) 8192 l.length [Z x,Z (.str []),J 0] s ⟨0,rfl,rfl,Gr.refl Sl,by simp⟩ (by omega)
 have Y:¬(2000:Int)<(l.length:Int):=by omega
 refine⟨Sm,?_,D⟩;rcases hj with ⟨rfl,z⟩ | ⟨rfl,z⟩
 ·rw[show yw l=(bj l,0) by unfold yw;rw[af z,af (by omega)]];simp[V,w,Y,aD,a8]
 ·have hp:yw l=([],1):=by unfold yw;rw[ae (by simp[z])]
  rw[hp];simp[V]
end
section
variable {s t:St}{x y:S}{l m:List bM}{i c:Nat}
theorem HA(d:Nat)(V:s.wf)(h:RE s x l)(k:RE s y m)(S:l.length<=8000):R (d+1) 79 [Z x,Z y] s=some (J (ff l m:Nat),s):=by
 rw[NJ];unfold f79;have c:=h.lens;have e:=k.lens;have r:=MV
 obtain⟨j,W,P,F,I⟩:=aL (f:=rU (R d) 8192) (λq v u=>∃n:Nat,q+n=l.length/\n<=m.length/\v=[Z x,Z y,J n]/\u=s/\∀j,j<n->l[j]? = m[j]?)
  (λj u=>j = .exit 0 [J (ff l m:Nat)]/\u=s) (by
  rintro q v u ⟨n,T,H,rfl,rfl,heq⟩;have E:=Dj l m n (by omega) H heq;by_cases K:n<l.length
  ·have o:(n:Int)<(l.length:Int):=by omega
   by_cases b:n<m.length
   ·have D:(n:Int)<(m.length:Int):=(by omega);have g:l[n]? = some l[n]:=aU K;have i:m[n]? = some (m[n]'b):=aU b;obtain⟨p,L,M⟩:=RE.QC h (n:=(n:Int)) rfl g;obtain⟨U,B,C⟩:=RE.QC k (n:=(n:Int)) rfl i;have t:l.drop n=l[n]::l.drop (n+1):=cU K;have w:m.drop n=(m[n]'b)::m.drop (n+1):=cU b;by_cases z:l[n]=m[n]'b
    ·left;have w1:IntKind.i64.wrap ((n:Int)+1)=((n+1:Nat):Int):=(by rw[aw _ (by omega) (by omega)];omega);refine⟨[Z x,Z y,J ((n+1:Nat):Int)],u,q-1,?_,by omega,n+1,by omega,by omega,rfl,rfl,λj F => ?_⟩
     ·have O:decide (l[n]=m[n]'b)=true:=aK z;unfold rU;generalize l[n]=N,(m[n]'b)=em,((n+1:Nat):Int)=Q at*;subst z;simp[c,e,o,D,L,B,M,C,r,w1]
     ·by_cases G:j=n
      ·subst G;rw[g,i,z]
      ·exact heq j (by omega)
    ·right
     have a:ff l m=n:=by
      rw[E,t,w];show n+(if l[n]=m[n]'b then _ else 0)=n
      rw[ae z];rfl
     refine⟨.exit 0 [J (ff l m:Nat)],u,?_,(λv A=>by cases A),rfl,rfl⟩;unfold rU;rw[a];clear E t w g i;generalize l[n]=N,(m[n]'b)=em at*;simp[c,e,o,D,L,B,M,C,r,z]
   ·right;have D:¬(n:Int)<(m.length:Int):=by omega
    have a:ff l m=n:=by
     rw[E,show n=m.length by omega,e7];cases l.drop m.length<;>simp[ff]
    refine⟨.exit 0 [J (ff l m:Nat)],u,?_,(λv A=>by cases A),rfl,rfl⟩;unfold rU;rw[a];simp[c,e,o,D,bD]
  ·right;have o:¬(n:Int)<(l.length:Int):=by omega
   have a:ff l m=n:=by
    rw[E,show n=l.length by omega,e7];simp[ff]
   refine⟨.exit 0 [J (ff l m:Nat)],u,?_,(λv A=>by cases A),rfl,rfl⟩;unfold rU;rw[a];simp[c,e,o,bD]) 8192 l.length [Z x,Z y,J 0] s ⟨0,rfl,by omega,rfl,rfl,λj F=>by omega⟩ (by omega)
 subst F;subst I;simp[P]
theorem DI(d:Nat)(f:s.wf)(h:RE s x l)(k:RE s y m)(e:l.length<=8000):R (d+2) 26 [Z x,Z y] s=some (B (decide (ff l m=l.length)),s):=by
 rw[M7];unfold f26;have b:=HA d f h k e;have a:=h.lens;have c:decide (((ff l m:Nat):Int)=(l.length:Int))=decide (ff l m=l.length):=decide_eq_decide.2 (by omega);simp only[b,fN,a,dt,eS,c]
end
abbrev cC(b:Bs)(at_:Nat)(bad:Bool):List S:=[.str b,.int .i64 at_,.bool bad]
def ki(b:Bs)(at_:Nat)(bad:Bool):Nat×Nat×Bool:=if bad then(0,at_,true)else match fY b at_ with
 |some (n,e)=>(n,e,false)
 |none=>(0,at_,true)
section
variable {s t:St}{x y:S}{b:Bs}{i c:Nat}
theorem Ce(d:Nat)(N:s.wf){at_:Nat}{bad:Bool}(g:s.get c=some (.K true (cC b at_ bad)))(T:b.length<=100000)(F:at_<=b.length) :
 ∃t,R (d+2) 142 [Z (.ptr c 0)] s=some (J6 ((ki b at_ bad).1:Nat),t)/\t.get c=some (.K true (cC b (ki b at_ bad).2.1 (ki b at_ bad).2.2))/\sH c s t/\(ki b at_ bad).2.1<=b.length:=by
 rw[Jt];unfold f142;have C:ba (Z (.ptr c 0))=some (Z (.ptr c 0)):=rfl;have E:∀j,ab j (Z (.ptr c 0))=some (Z (.ptr c j)):=λj=>by simp[ab]
 have O:aa (Z (.ptr c 0)) s.get=some (Z (.str b)):=ag g rfl;have Q:aa (Z (.ptr c 1)) s.get=some (J at_):=ag g rfl;have I:aa (Z (.ptr c 2)) s.get=some (B bad):=ag g rfl;have h:=N.lt g;cases bad with
 |true=>
  refine⟨s,?_,g,⟨N,au _,λ_ _ _=>rfl⟩,F⟩;simp[C,E,I,ki]
 |false=>
  have e:=B8 (s:=s) d T (at_:=at_) (by omega)
  have two:∀(p:Nat) (q:Bool),∃z t2,aj 1 (Z (.ptr c 1)) (J p) s=some (tt,z)/\aj 1 (Z (.ptr c 2)) (B q) z=some (tt,t2)/\t2.get c=some (.K true (cC b p q))/\sH c s t2:=λp q=>by
   have w:=aJ (σ:=s) (i:=c) (o:=1) (x := .int .i64 p) g (by simp);have G:(s.set c (.K true (cC b p false))).get c=some (.K true (cC b p false)):=St.dh;have y:=aJ (σ:=s.set c (.K true (cC b p false))) (i:=c) (o:=2) (x := .bool q) G (by simp);refine⟨_,_,w,y,St.dh,St.wf_set (St.wf_set N h _) (by simpa using h) _,by simp,λk V n=>by rw[St.bO n,St.bO n]⟩
  cases u:fY b at_ with
  |none=>
   rw[u]at e;simp only[mf,af F]at e;obtain⟨z,t2,w,y,r,D⟩:=two at_ true;have H:ki b at_ false=(0,at_,true):=by unfold ki;rw[u];rfl
   rw[H];refine⟨t2,?_,r,D,F⟩;generalize R (d+1)=U at*;simp[C,E,O,Q,I,e,ai,w,y]
  |some p=>
   obtain⟨m,S⟩:=p;rw[u]at e;simp only[mf]at e;obtain⟨z,t2,w,y,r,D⟩:=two S false;have H:ki b at_ false=(m,S,false):=by unfold ki;rw[u];rfl
   rw[H];refine⟨t2,?_,r,D,(mT u).2⟩;generalize R (d+1)=U at*;simp[C,E,O,Q,I,e,ai,w,y]
theorem Hl(d:Nat)(O:s.wf)(h:s.get c=some (.K true (cC b 0 false))):∃t,R (d+1) 140 [Z (.ptr c 0)] s=some (J8 ((b.headD 0).toNat:Nat),t)/\t.get c=some (.K true (cC b (if b=[]then 0 else 1) (decide (b=[]))))/\sH c s t:=by
 rw[Jr];unfold f140;have G:ba (Z (.ptr c 0))=some (Z (.ptr c 0)):=rfl;have H:∀j,ab j (Z (.ptr c 0))=some (Z (.ptr c j)):=λj=>by simp[ab]
 have w:aa (Z (.ptr c 0)) s.get=some (Z (.str b)):=ag h rfl;have I:aa (Z (.ptr c 1)) s.get=some (J 0):=ag h rfl;have N:aa (Z (.ptr c 2)) s.get=some (B false):=ag h rfl;have C:=O.lt h;have E:aV (Z (.str b))=some (J (b.length:Int)):=rfl
 have one:∀{j:Nat} {v:S},j<3->∃t,aj 1 (Z (.ptr c j)) (Z v) s=some (tt,t)/\t.get c=some (.K true ((cC b 0 false).set j v))/\sH c s t:=λ {j v} T=>by
  have q:=aJ (σ:=s) (i:=c) (o:=j) (x:=v) h (by simpa using T);exact⟨_,q,St.dh,St.wf_set O C _,by simp,λk X D=>St.bO D⟩
 cases u:b with
 |nil=>
  rw[u]at E w;obtain⟨g,q,n,z⟩:=one (j:=2) (v := .bool true) (by omega);rw[u]at n;refine⟨g,?_,n,z⟩;have F:aV (Z (.str []))=some (J 0):=rfl;simp[G,H,w,I,N,F,q]
 |cons a r=>
  rw[u]at E w;obtain⟨g,q,n,z⟩:=one (j:=1) (v := .int .i64 1) (by omega);rw[u]at n;have Q:¬((a::r).length:Int)<=0:=by simp
  have w1:IntKind.i64.wrap 1=1:=rfl;have w0:IntKind.i64.wrap 0=0:=rfl;have e:g.get c=some (.K true (cC (a::r) 1 false)):=n;have U:aa (Z (.ptr c 0)) g.get=some (Z (.str (a::r))):=ag e rfl;have V:aa (Z (.ptr c 1)) g.get=some (J 1):=ag e rfl;have y:bZ (Z (.str (a::r))) (J 0)=some (J8 a.toNat):=jU (j:=0) rfl rfl;refine⟨g,?_,by simpa using e,z⟩;rw[show((a::r).headD 0)=a from rfl];generalize((a::r).length:Int)=L at*;generalize a::r=br at*;simp[G,H,w,I,N,E,Q,w1,q,U,V,w0,y]
def jO(b:Bs)(n at_:Nat)(bad:Bool):Bs×Nat×Bool:=if bad=true\/b.length-at_<n then([],at_,true)else((b.drop at_).take n,at_+n,false)
theorem HL(d:Nat)(V:s.wf){n at_:Nat}{bad:Bool}(u:s.get c=some (.K true (cC b at_ bad)))(hl:b.length<=100000)(ha:at_<=b.length) :
 ∃t,R (d+1) 143 [Z (.ptr c 0),J6 (n:Nat)] s=some (Z (.str (jO b n at_ bad).1),t)/\t.get c=some (.K true (cC b (jO b n at_ bad).2.1 (jO b n at_ bad).2.2))/\sH c s t:=by
 rw[Ju];unfold f143;have y:ba (Z (.ptr c 0))=some (Z (.ptr c 0)):=rfl;have E:∀j,ab j (Z (.ptr c 0))=some (Z (.ptr c j)):=λj=>by simp[ab]
 have O:aa (Z (.ptr c 0)) s.get=some (Z (.str b)):=ag u rfl;have Q:aa (Z (.ptr c 1)) s.get=some (J at_):=ag u rfl;have I:aa (Z (.ptr c 2)) s.get=some (B bad):=ag u rfl;have F:=V.lt u;have w:aV (Z (.str b))=some (J (b.length:Int)):=rfl
 have one:∀{j:Nat} {v:S},j<3->∃t,aj 1 (Z (.ptr c j)) (Z v) s=some (tt,t)/\t.get c=some (.K true ((cC b at_ bad).set j v))/\sH c s t:=λ {j v} hj=>by
  have q:=aJ (σ:=s) (i:=c) (o:=j) (x:=v) u (by simpa using hj);exact⟨_,q,St.dh,St.wf_set V F _,by simp,λk hk G=>St.bO G⟩
 have w1:IntKind.i64.wrap ((b.length:Int)-(at_:Int))=((b.length-at_:Nat):Int):=by rw[aw _ (by omega) (by omega)];omega
 have U:IntKind.u64.wrap ((b.length-at_:Nat):Int)=((b.length-at_:Nat):Int):=wrap64 _ (by omega);by_cases h:bad=true\/b.length-at_<n
 ·have H:jO b n at_ bad=([],at_,true):=by unfold jO;rw[af h]
  rw[H];obtain⟨r,q,N,z⟩:=one (j:=2) (v := .bool true) (by omega);refine⟨r,?_,N,z⟩;cases bad with
  |true=>simp[y,E,I,q,bD]
  |false=>
   have Y:b.length-at_<n:=h.resolve_left (by decide);have C:((b.length-at_:Nat):Int)<(n:Int):=by omega
   generalize((b.length-at_:Nat):Int)=D at*;simp[y,E,O,Q,I,w,w1,U,C,q]
 ·have H:jO b n at_ bad=((b.drop at_).take n,at_+n,false):=by unfold jO;rw[ae h]
  have X:bad=false:=by cases bad with
   |true=>exact absurd (.inl rfl) h
   |false=>rfl
  subst X;have Y:¬b.length-at_<n:=λe=>h (.inr e)
  rw[H];obtain⟨r,q,N,z⟩:=one (j:=1) (v := .int .i64 ((at_+n:Nat):Int)) (by omega);have g:r.get c=some (.K true (cC b (at_+n) false)):=N;have m0:aa (Z (.ptr c 0)) r.get=some (Z (.str b)):=ag g rfl;have m1:aa (Z (.ptr c 1)) r.get=some (J ((at_+n:Nat):Int)):=ag g rfl;have C:¬((b.length-at_:Nat):Int)<(n:Int):=by omega
  have w3:IntKind.i64.wrap (n:Int)=(n:Int):=fJ _ (by omega);have w4:IntKind.i64.wrap ((at_:Int)+(n:Int))=((at_+n:Nat):Int):=by rw[aw _ (by omega) (by omega)];omega
  have w5:IntKind.i64.wrap (((at_+n:Nat):Int)-(n:Int))=(at_:Int):=by rw[aw _ (by omega) (by omega)];omega
  have T:=iD (l:=b) (lo:=at_) (hi:=at_+n) rfl rfl (by omega) (by omega);rw[o3]at T;refine⟨r,?_,g,z⟩;generalize((b.length-at_:Nat):Int)=D,((at_+n:Nat):Int)=AN at*;simp[y,E,O,Q,I,w,w1,U,C,w3,w4,q,m0,m1,w5,T]
theorem HU(d:Nat)(n most:Nat)(c:most<2 ^ 62):R (d+1) 141 [J6 (n:Nat),J6 (most:Nat)] s=some (J ((if most<n then most+1 else n:Nat):Int),s):=by
 rw[Js];unfold f141;by_cases h:most<n
 ·have a:(most:Int)<(n:Int):=by omega
  have w1:IntKind.i64.wrap (most:Int)=(most:Int):=fJ _ (by omega);have b:IntKind.i64.wrap ((most:Int)+1)=((most+1:Nat):Int):=by rw[aw _ (by omega) (by omega)];omega
  rw[af h];simp[a,w1,b]
 ·have a:¬(most:Int)<(n:Int):=by omega
  have w1:IntKind.i64.wrap (n:Int)=(n:Int):=fJ _ (by omega);rw[ae h];simp[a,w1]
end
end Go.Proofs.YtbohejffelipoaaGreatDoor
