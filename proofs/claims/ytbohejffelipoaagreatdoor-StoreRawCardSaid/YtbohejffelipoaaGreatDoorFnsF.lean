/-
  Several texts in one: what functions that the law reaches compute. No conditions but those named in each line.
-/
import Derived.Test.YtbohejffelipoaaGreatDoorFnsE
import Derived.Test.YtbohejffelipoaaGreatDoorFnsB
import Derived.Test.YtbohejffelipoaaGreatDoorFnsC
import Derived.Test.YtbohejffelipoaaGreatDoorFnsA
import Derived.Test.YtbohejffelipoaaGreatDoorFnsD
set_option linter.unusedVariables false
set_option linter.unusedSimpArgs false
set_option maxHeartbeats 4000000
namespace Go.Proofs.YtbohejffelipoaaGreatDoor
open Go Go.Abs Go.Abs.F
structure wB where
 nm:Bs
 b:Bs
 su:Nat
def Ez(f:wB):List S:=[.str f.nm,.str f.b,.int .i64 f.su]
theorem gj(f:wB):(Ez f).length=3:=rfl
abbrev Qh(f:wB):T := .v (.agg (Ez f))
section
variable {α:Type}{enc:α->List S}{e:Nat}
theorem oC(d:∀a,(enc a).length=e):∀(l:List α) (k f:Nat) (a c:α) (v:S),l[k]? = some a->f<e->enc c=(enc a).set f v->(cells enc l).set (k*e+f) v=cells enc (l.set k c)
 | [],k,f,a,c,v,h,_,_=>by simp at h
 |x::l,0,f,a,c,v,h,j,g=>by
  have:x=a:=by simpa using h
  subst this;rw[fm,o4,a7,FH,fm,g,List.set_append_left _ _ (by rw[d];exact j)]
 |x::l,k+1,f,a,c,v,h,j,g=>by
  have n:l[k]? = some a:=by simpa using h
  have o:=oC d l k f a c v n j g;rw[fm,FG,fm,<-o,FF _ _ (by rw[d,bJ];omega),d,show(k+1)*e+f-e=k*e+f by rw[bJ];omega]
end
section
variable {s t u:St}{x y:S}{e n p i k:Nat}{vs:List S}{room:Int}{fs:List wB}{nm b:Bs}{f:wB}
theorem q4{rows:List S}{k:Nat}{v:S}(h:k<rows.length):aQ rows k [v]=rows.set k v:=by
 rw[cy _ _ _ (by simp only[iV];omega)];apply nt;intro j;rw[ru];by_cases b:k=j
 ·subst b;rw[af rfl,af h];simp[List.getElem?_append,bb,gp (zT h)]
 ·rw[ae b];by_cases a:j<k
  ·rw[bg,kx (by rw[bb];omega),ux a]
  ·rw[ky (by simp;omega)];simp
   congr 1
   omega
theorem Ow.DT(h:Ow e s x n vs)(q:s.wf){j f:Nat}(r:j<n)(B:f<e):∃c,own x=some c/\c<s.size/\ar e (Z x) (J j)=some (Z (.ptr c (j*e))) ∧
 ∀v:S,∃t,aj 1 (Z (.ptr c (j*e+f))) (Z v) s=some (tt,t)/\t.wf/\t.size=s.size/\Ow e t x n (vs.set (j*e+f) v)/\∀c',c'≠c->t.get c'=s.get c':=by
 have z:j*e+f<n*e:=by
  have:(j+1)*e<=n*e:=dx e r;rw[bJ]at this;omega
 rcases h.ow with ⟨_,rfl⟩ | ⟨_,_,_,rfl,_⟩ | ⟨c,rows,cap,rfl,y,d,u,w⟩
 ·omega
 ·omega
 ·refine⟨c,rfl,q.lt d,?_,λv => ?_⟩
  ·have:=eu (e:=e) (b:=c) (o:=0) (c:=cap) (k := .i64) (n:=(j:Int)) rfl r
   rwa [a7]at this
  ·refine⟨_,aJ d (by omega),St.wf_set q (q.lt d) _,by simp,⟨by rw[iU];exact h.len,.inr (.inr ⟨c,_,cap,rfl,y,St.dh,?_,?_⟩)⟩,λc' g=>St.bO g⟩
   ·rw[q4 (by omega),iU];exact u
   ·rw[q4 (by omega),<-w,List.take_set]
structure kX(s:St)(p:Nat)(room:Int)(x:S)(fs:List wB):Prop where
 wf:s.wf
 st:s.get p=some (.K true [.int .i64 room,x])
 ow:Ow 3 s x fs.length (cells Ez fs)
 ne:own x≠some p
theorem kX.pl(h:kX s p room x fs):p<s.size:=h.wf.lt h.st
theorem kX.xl(h:kX s p room x fs){c:Nat}(a:own x=some c):c<s.size:=h.ow.lt h.wf a
theorem kX.keep(h:kX s p room x fs)(d:t.wf)(a:t.get p=s.get p)(b:∀c,own x=some c->t.get c=s.get c):kX t p room x fs:=⟨d,by rw[a];exact h.st,h.ow.keep b,h.ne⟩
theorem kX.gr(h:kX s p room x fs)(g:Gr s t):kX t p room x fs:=h.keep g.wf (g.2.2 p h.pl) λc a=>g.2.2 c (h.xl a)
theorem kX.l0(h:kX s p room x fs):aa (Z (.ptr p 0)) s.get=some (J room):=ag h.st rfl
theorem kX.l1(h:kX s p room x fs):aa (Z (.ptr p 1)) s.get=some (Z x):=ag h.st rfl
theorem kX.at(h:kX s p room x fs){j:Nat}{i:Int}(hi:i=j)(a:fs[j]? = some f):∃c q,ar 3 (Z x) (J i)=some (Z (.ptr c q))/\aa (Z (.ptr c q)) s.get=some (Z (.str f.nm))/\aa (Z (.ptr c (q+1))) s.get=some (Z (.str f.b))/\aa (Z (.ptr c (q+2))) s.get=some (J f.su):=by
 obtain⟨c,q,e,d,_⟩:=Rd.at h.ow.rd hi (bq.1 a).1;refine⟨c,q,e,?_,?_,?_⟩
 ·exact d 0 _ (by omega) (by rw[jh gj a (by omega)];rfl)
 ·exact d 1 _ (by omega) (by rw[jh gj a (by omega)];rfl)
 ·exact d 2 _ (by omega) (by rw[jh gj a (by omega)];rfl)
def lU(nm:Bs):Nat->List wB->Int
 |_,[] => -1
 |k,f::r=>if f.nm=nm then(k:Nat)else lU nm (k+1) r
theorem oS(d:Nat)(h:kX s p room x fs)(I:fs.length<=1000)(nm:Bs):R (d+1) 37 [Z (.ptr p 0),Z (.str nm)] s=some (J (lU nm 0 fs),s):=by
 have n:ba (Z (.ptr p 0))=some (Z (.ptr p 0)):=rfl;have w:=h.l1;have y:=h.ow.rd.lens
 obtain⟨j,O,z,H,rfl⟩:=aL (f:=vi (R d) 8192)
  (λq v u=>∃k:Nat,q+k=fs.length/\v=[Z (.ptr p 0),Z (.str nm),J k]/\u=s/\lU nm k (fs.drop k)=lU nm 0 fs)
  (λj u=>((j = .exit 0 []/\lU nm 0 fs = -1)\/(∃k:Nat,j = .ret (J k)/\lU nm 0 fs=(k:Nat)))/\u=s) (by
  rintro q v u ⟨k,N,rfl,rfl,e⟩;by_cases D:k<fs.length
  ·obtain⟨a,C⟩:=aZ (fs[k]);have r:fs[k]? = some a:=by rw[aU D,C]
   obtain⟨c,o,E,F,_,_⟩:=h.at (i:=(k:Int)) rfl r;rw[cU D,<-C,lU]at e;have B:(k:Int)<(fs.length:Int):=by omega
   have w1:IntKind.i64.wrap ((k:Int)+1)=((k+1:Nat):Int):=by rw[aw _ (by omega) (by omega)];omega
   by_cases g:a.nm=nm
   ·right;rw[af g]at e;refine⟨.ret (J k),u,?_,(λv h=>by cases h),.inr ⟨k,rfl,e.symm⟩,rfl⟩;unfold vi;simp[n,w,y,B,E,F,g]
   ·left;rw[ae g]at e;refine⟨[Z (.ptr p 0),Z (.str nm),J ((k+1:Nat):Int)],u,q-1,?_,by omega,k+1,by omega,rfl,rfl,e⟩;unfold vi;simp[n,w,y,B,E,F,g,w1]
  ·right;have t:k=fs.length:=by omega
   subst t;rw[e7]at e;refine⟨.exit 0 [],u,?_,(λv h=>by cases h),.inl ⟨rfl,e.symm⟩,rfl⟩;unfold vi;simp[n,w,y])
  8192 fs.length _ s ⟨0,by omega,rfl,rfl,rfl⟩ (by omega)
 rw[Nd];unfold f37;have G:((0:Nat):Int)=0:=rfl;rw[G]at z;rcases H with ⟨rfl,e⟩ | ⟨k,rfl,e⟩
 ·rw[e];simp[z]
 ·rw[e];simp[z]
def nX(b:Bs):Bool:=b.all (λc=>(Nat.ble 97 c.toNat&&Nat.ble c.toNat 122)||(Nat.ble 48 c.toNat&&Nat.ble c.toNat 57)||Nat.beq c.toNat 46)&&(Nat.ble 1 b.length&&Nat.ble b.length 20)
theorem kW(d:Nat)(hl:b.length<=8000):R (d+1) 38 [Z (.str b)] s=some (B (nX b),s):=by
 have ls:aV (Z (.str b))=some (J b.length):=rfl;obtain⟨P,Q⟩:=aZ (λc=>(Nat.ble 97 c.toNat&&Nat.ble c.toNat 122)||(Nat.ble 48 c.toNat&&Nat.ble c.toNat 57)||Nat.beq c.toNat 46:UInt8->Bool)
 obtain⟨j,Sj,G,hj,rfl⟩:=aL (f:=vj (R d) 8192)
  (λq v u=>∃k:Nat,q+k=b.length/\v=[Z (.str b),J k]/\u=s/\(b.drop k).all P=b.all P)
  (λj u=>((j = .exit 0 [Z (.str b)]/\b.all P=true)\/(j = .ret (B false)/\b.all P=false))/\u=s) (by
  rintro q v u ⟨k,hq,rfl,rfl,o⟩;by_cases T:k<b.length
  ·obtain⟨a,S⟩:=aZ (b[k]);have I:b[k]? = some a:=by rw[aU T,S]
   rw[cU T,<-S,nq]at o;have g:bZ (Z (.str b)) (J k)=some (J8 a.toNat):=jU rfl I;have C:(k:Int)<(b.length:Int):=by omega
   have w1:IntKind.i64.wrap ((k:Int)+1)=((k+1:Nat):Int):=by rw[aw _ (by omega) (by omega)];omega
   obtain⟨m,U⟩:=aZ (a.toNat);have E:P a=((Nat.ble 97 m&&Nat.ble m 122)||(Nat.ble 48 m&&Nat.ble m 57)||Nat.beq m 46):=by rw[Q,U]
   rw[<-U]at g;by_cases r:P a=true
   ·left;rw[r,dX]at o;refine⟨[Z (.str b),J ((k+1:Nat):Int)],u,q-1,?_,by omega,k+1,by omega,rfl,rfl,o⟩;rw[E]at r
    have w:(97<=m/\m<=122)\/(48<=m/\m<=57)\/m=46:=by
     simp only[kv,aM,zR,Nat.beq_eq]at r;omega
    unfold vj;rcases w with ⟨g1,g2⟩ | ⟨g1,g2⟩ | g1
    ·have n:¬((m:Nat):Int)<97:=(by omega);have t:¬(122:Int)<((m:Nat):Int):=(by omega);simp[ls,C,g,n,t,w1,bD]
    ·have n:((m:Nat):Int)<97:=(by omega);have t:¬((m:Nat):Int)<48:=(by omega);have z:¬(57:Int)<((m:Nat):Int):=(by omega);simp[ls,C,g,n,t,z,w1,bD]
    ·subst g1;have n:((46:Nat):Int)=46:=rfl;rw[n]at g;simp[ls,C,g,w1,bD]
   ·right;have r:P a=false:=by simpa using r
    refine⟨.ret (B false),u,?_,(λv h=>by cases h),.inr ⟨rfl,by rw[<-o,r];rfl⟩,rfl⟩;rw[E]at r
    have w:m<97/\(m<48\/57<m)/\m≠46\/122<m:=by
     simp only[Mk,Mj]at r;obtain⟨⟨h1,h2⟩,h3⟩:=r;have F:∀{x y:Nat},Nat.ble x y=false->y<x:=λ {x y} h=>Nat.lt_of_not_le λY=>by rw[dw Y]at h;cases h
     have D:m≠46:=λe=>by subst e;cases h3
     rcases h1 with h1 | h1
     ·rcases h2 with h2 | h2
      ·exact .inl ⟨F h1,.inl (F h2),D⟩
      ·exact .inl ⟨F h1,.inr (F h2),D⟩
     ·exact .inr (F h1)
    unfold vj;rcases w with ⟨g1,g2 | g2,g3⟩ | g1
    ·have n:((m:Nat):Int)<97:=(by omega);have t:((m:Nat):Int)<48:=(by omega);have z:¬((m:Nat):Int)=46:=(by omega);simp[ls,C,g,n,t,z,bD]
    ·have n:((m:Nat):Int)<97:=(by omega);have t:¬((m:Nat):Int)<48:=(by omega);have O:(57:Int)<((m:Nat):Int):=(by omega);have z:¬((m:Nat):Int)=46:=(by omega);simp[ls,C,g,n,t,z,O,bD]
    ·have n:¬((m:Nat):Int)<97:=(by omega);have t:(122:Int)<((m:Nat):Int):=(by omega);have q5:¬((m:Nat):Int)<48:=(by omega);have O:(57:Int)<((m:Nat):Int):=(by omega);have z:¬((m:Nat):Int)=46:=(by omega);simp[ls,C,g,n,t,z,O,q5,bD]
  ·right;have N:k=b.length:=by omega
   subst N;rw[e7]at o;refine⟨.exit 0 [Z (.str b)],u,?_,(λv h=>by cases h),.inl ⟨rfl,by rw[<-o];rfl⟩,rfl⟩;unfold vj;simp[ls])
  8192 b.length _ s ⟨0,by omega,rfl,rfl,by simp⟩ (by omega)
 have X:((0:Nat):Int)=0:=rfl;rw[X]at G;rw[Nf];unfold f38 nX;rw[<-Q];rcases hj with ⟨rfl,o⟩ | ⟨rfl,o⟩
 ·rw[o,dX];by_cases h1:1<=b.length
  ·have H:(1:Int)<=(b.length:Int):=by omega
   rw[dw h1,dX]
   have V:Nat.ble b.length 20=decide ((b.length:Int)<=20):=by
    by_cases h2:b.length<=20
    ·rw[dw h2,aK (by omega)]
    ·rw[aR (by omega)];exact gE.2 λh=>h2 (cm h)
   rw[V];simp[G,ls,H]
  ·have H:¬(1:Int)<=(b.length:Int):=by omega
   have h2:Nat.ble 1 b.length=false:=gE.2 λh=>h1 (cm h)
   rw[h2,gh];simp[G,ls,H,bD]
 ·rw[o];simp[G]
def lW(fs:List wB):Nat:=(fs.map λf=>f.b.length).sum
theorem yc(d:Nat)(h:kX s p room x fs)(I:fs.length<=1000)(L:lW fs<=1000000):R (d+1) 39 [Z (.ptr p 0)] s=some (J (lW fs:Nat),s):=by
 have r:ba (Z (.ptr p 0))=some (Z (.ptr p 0)):=rfl;have y:=h.l1;have z:=h.ow.rd.lens
 obtain⟨j,M,A,rfl,rfl⟩:=aL (f:=yR (R d) 8192)
  (λq v u=>∃k n:Nat,q+k=fs.length/\v=[Z (.ptr p 0),J n,J k]/\u=s/\n+lW (fs.drop k)=lW fs)
  (λj u=>j = .exit 0 [J (lW fs:Nat)]/\u=s) (by
  rintro q v u ⟨k,n,K,rfl,rfl,e⟩;by_cases w:k<fs.length
  ·left;obtain⟨a,t⟩:=aZ (fs[k]);have g:fs[k]? = some a:=by rw[aU w,t]
   obtain⟨c,o,F,_,G,_⟩:=h.at (i:=(k:Int)) rfl g
   have E:n+(a.b.length+lW (fs.drop (k+1)))=lW fs:=by
    rw[cU w,<-t]at e
    simpa[lW]using e
   have B:(k:Int)<(fs.length:Int):=by omega
   have w1:IntKind.i64.wrap ((k:Int)+1)=((k+1:Nat):Int):=by rw[aw _ (by omega) (by omega)];omega
   have H:IntKind.i64.wrap ((n:Int)+(a.b.length:Int))=((n+a.b.length:Nat):Int):=by rw[aw _ (by omega) (by omega)];omega
   have m:aV (Z (.str a.b))=some (J a.b.length):=rfl;refine⟨[Z (.ptr p 0),J ((n+a.b.length:Nat):Int),J ((k+1:Nat):Int)],u,q-1,?_,by omega,k+1,n+a.b.length,by omega,rfl,rfl,by omega⟩;unfold yR;simp[r,y,z,B,F,G,m,w1,H]
  ·right;have l:k=fs.length:=by omega
   subst l;rw[e7]at e;have D:n=lW fs:=by simpa[lW]using e
   subst D;refine⟨_,u,?_,(λv h=>by cases h),rfl,rfl⟩;unfold yR;simp[r,y,z])
  8192 fs.length _ s ⟨0,0,by omega,rfl,rfl,by simp⟩ (by omega)
 rw[Ng];unfold f39;have C:((0:Nat):Int)=0:=rfl;rw[C]at A;simp[A]
theorem tz(d:Nat)(h:kX s p room x fs)(O:fs.length<=1000):∃y t,R (d+1) 63 [Z (.ptr p 0)] s=some (Z y,t)/\Fr 1 s t y fs.length (fs.map λf=>S.str f.nm):=by
 have r:ba (Z (.ptr p 0))=some (Z (.ptr p 0)):=rfl
 obtain⟨j,N,A,y,rfl,b⟩:=aL (f:=yW (R d) 8192)
  (λq v u=>∃(k:Nat) (y:S),q+k=fs.length/\v=[Z (.ptr p 0),Z y,J k]/\Fr 1 s u y k ((fs.take k).map λf=>S.str f.nm))
  (λj u=>∃y,j = .exit 0 [Z y]/\Fr 1 s u y fs.length (fs.map λf=>S.str f.nm)) (by
  rintro q v u ⟨k,y,P,rfl,b⟩;have m:=h.gr b.gr;have w:=m.l1;have z:=m.ow.rd.lens;by_cases G:k<fs.length
  ·left;obtain⟨a,F⟩:=aZ (fs[k]);have e:fs[k]? = some a:=by rw[aU G,F]
   obtain⟨c,o,H,I,_,_⟩:=m.at (i:=(k:Int)) rfl e;have B:(k:Int)<(fs.length:Int):=by omega
   have w1:IntKind.i64.wrap ((k:Int)+1)=((k+1:Nat):Int):=by rw[aw _ (by omega) (by omega)];omega
   have L:=Fr.lit 1 b.gr.1 (n:=1) (vs:=[S.str a.nm]) rfl;obtain⟨x',t,D,E,Q,_⟩:=(b.j6 L.gr).mo (by_:=16) (by omega) L.rd.src (by simp) (by omega);have M:aE u (aN 1 (aA [.str []] [(0,1,Z (.str a.nm))]))=some (Z (.sl u.size 0 1 (.known 1)),u.push (.K true [S.str a.nm])):=rfl;have l:(fs.take (k+1)).map (λf=>S.str f.nm)=(fs.take k).map (λf=>S.str f.nm)++[S.str a.nm]:=by rw[cM,e,lK];rfl
   refine⟨[Z (.ptr p 0),Z x',J ((k+1:Nat):Int)],t,q-1,?_,by omega,k+1,x',by omega,rfl,by rw[l];exact E⟩;unfold yW;simp[r,w,z,B,H,I,M,D,w1]
  ·right;have g:k=fs.length:=by omega
   subst g;rw[dE]at b;refine⟨_,u,?_,(λv h=>by cases h),y,rfl,b⟩;unfold yW;simp[r,w,z])
  8192 fs.length _ s ⟨0,.av,by omega,rfl,Fr.nil 1 h.wf⟩ (by omega)
 refine⟨y,N,?_,b⟩;rw[Ny];unfold f63;have C:((0:Nat):Int)=0:=rfl;rw[C]at A;simp[A]
theorem y2:∀(k:Nat) (fs:List wB),(∀f∈fs,f.nm≠nm)->lU nm k fs = -1
 |_,[],_=>rfl
 |k,f::r,h=>by rw[lU,ae (h f eF)];exact y2 (k+1) r λg c=>h g (dC _ c)
theorem LU(d:Nat)(h:kX s p room x fs)(o:fs.length<=1000)(j:nm.length<=8000)(k:∀f∈fs,f.nm≠nm):∃c:Int,R (d+2) 55 [Z (.ptr p 0),Z (.str nm)] s=some (.c6 [.s (.str []),.s (.int .i64 c)],s)/\¬c=0:=by
 have g:=oS d h o nm;rw[y2 0 fs k]at g;have e:=kW (s:=s) (b:=nm) d j;cases n:nX nm with
 |true=>
  rw[n]at e;refine⟨9,?_,by decide⟩;rw[yV];unfold f55;generalize R (d+1)=q at*;simp[g,e,aD,a8]
 |false=>
  rw[n]at e;refine⟨1,?_,by decide⟩;rw[yV];unfold f55;generalize R (d+1)=q at*;simp[g,e,aD,a8]
theorem v8(d:Nat)(h:kX s p room x fs)(q:fs.length<=1000)(a:nm.length<=8000)(e:nX nm=true)(hi:lU nm 0 fs=(k:Nat))(n:fs[k]? = some f):R (d+2) 55 [Z (.ptr p 0),Z (.str nm)] s=some (.c6 [.s (.str f.b),.s (iz)],s):=by
 have g:=oS d h q nm;rw[hi]at g;have j:=kW (s:=s) (b:=nm) d a;rw[e]at j;obtain⟨c,o,r,_,u,_⟩:=h.at (i:=(k:Int)) rfl n;have t:=h.l1;have m:¬(k:Int)<0:=by omega
 have l:ba (Z (.ptr p 0))=some (Z (.ptr p 0)):=rfl;rw[yV];unfold f55;generalize R (d+1)=v at*;simp[g,j,m,l,t,r,u,aD,a8]
theorem LW(d:Nat)(h:kX s p room x fs)(E:fs.length<=1000)(n:nm.length<=8000)(q:nX nm=true)(hi:lU nm 0 fs=(k:Nat))(l:fs[k]? = some f):∃t,R (d+2) 60 [Z (.ptr p 0),Z (.str nm)] s=some (J 0,t)/\kX t p room x (fs.set k { f with su:=f.b.length })/\s.size<=t.size/\∀c,own x≠some c->t.get c=s.get c:=by
 have v:=oS d h E nm;rw[hi]at v;have w:=kW (s:=s) (b:=nm) d n;rw[q]at w;obtain⟨c,o,z,_,H,_⟩:=h.at (i:=(k:Int)) rfl l;have G:=h.l1;have D:¬(k:Int)<0:=by omega
 have C:ba (Z (.ptr p 0))=some (Z (.ptr p 0)):=rfl;have m:=(bq.1 l).1;obtain⟨K,y,_,a,st⟩:=Ow.DT h.ow h.wf (j:=k) (f:=2) m (by omega);rw[z]at a
 injection a with a
 injection a with a
 injection a with a
 injection a with g F
 subst g;subst F;obtain⟨t,I,u,z1,B,A⟩:=st (.int .i64 f.b.length);have r:aV (Z (.str f.b))=some (J f.b.length):=rfl;rw[oC gj fs k 2 f { f with su:=f.b.length } _ l (by omega) rfl]at B;refine⟨t,?_,⟨u,?_,by rw[iU];exact B,h.ne⟩,by omega,λc g=>A c λe=>g (by rw[y,e])⟩
 ·rw[Nw];unfold f60;generalize R (d+1)=L at*;simp[v,w,D,C,G,z,H,r,I]
 ·rw[A p λe=>h.ne (by rw[y,e])];exact h.st
theorem OK(d:Nat)(h:kX s p room x fs)(hl:fs.length<=1000)(A:nm.length<=8000)(C:nX nm=true)(hi:lU nm 0 fs=(k:Nat))(z:fs[k]? = some f){n:Nat}(hn:n<=f.b.length)(Y:f.b.length<=100000):∃t,R (d+2) 58 [Z (.ptr p 0),Z (.str nm),J n] s=some (J 0,t)/\kX t p room x (fs.set k ⟨f.nm,f.b.take n,min f.su n⟩)/\s.size<=t.size/\∀c,own x≠some c->t.get c=s.get c:=by
 have M:=oS d h hl nm;rw[hi]at M;have N:=kW (s:=s) (b:=nm) d A;rw[C]at N;obtain⟨c,o,E,_,lb,_⟩:=h.at (i:=(k:Int)) rfl z;have Sk:=h.l1;have T:¬(k:Int)<0:=by omega
 have U:¬(n:Int)<0:=by omega
 have W:¬(f.b.length:Int)<(n:Int):=by omega
 have S:ba (Z (.ptr p 0))=some (Z (.ptr p 0)):=rfl;have r:=(bq.1 z).1;obtain⟨c',v,_,a,st⟩:=Ow.DT h.ow h.wf (j:=k) (f:=1) r (by omega);rw[E]at a
 injection a with a
 injection a with a
 injection a with a
 injection a with u B
 subst u;subst B;obtain⟨t,s1,y,z1,P,F⟩:=st (.str (f.b.take n));have I:aV (Z (.str f.b))=some (J f.b.length):=rfl;have pc:=ew (l:=f.b) (m:=n) (n:=(n:Int)) rfl hn;rw[oC gj fs k 1 f ⟨f.nm,f.b.take n,f.su⟩ _ z (by omega) rfl]at P;have D:kX t p room x (fs.set k ⟨f.nm,f.b.take n,f.su⟩):=⟨y,by rw[F p λe=>h.ne (by rw[v,e])];exact h.st,by rw[iU];exact P,h.ne⟩;have w:(fs.set k ⟨f.nm,f.b.take n,f.su⟩)[k]? = some ⟨f.nm,f.b.take n,f.su⟩:=oW r;have G:=D.l1;obtain⟨V,Sm,g,_,_,H⟩:=D.at (i:=(k:Int)) rfl w;rw[E]at g
 injection g with g
 injection g with g
 injection g with g
 injection g with u B
 subst u;subst B;obtain⟨X,q,_,Sj,K⟩:=Ow.DT D.ow y (j:=k) (f:=2) (by rw[iU];exact r) (by omega);rw[v]at q
 injection q with q
 subst q;obtain⟨t2,s2,L,z2,Q,O⟩:=K (.int .i64 (min f.su n:Nat));rw[oC gj _ k 2 ⟨f.nm,f.b.take n,f.su⟩ ⟨f.nm,f.b.take n,min f.su n⟩ _ w (by omega) rfl,List.set_set,iU]at Q
 have Sl:kz l3 (J f.su) [J n]=some (J (min f.su n:Nat)):=by
  have:(if(n:Int)<(f.su:Int)then(n:Int)else(f.su:Int))=((min f.su n:Nat):Int):=by split<;>omega
  show some (J (if(n:Int)<(f.su:Int)then(n:Int)else(f.su:Int)))=_
  rw[this]
 refine⟨t2,?_,⟨L,?_,by rw[iU];exact Q,h.ne⟩,by omega,λc u=>by rw[O c λe=>u (by rw[v,e]),F c λe=>u (by rw[v,e])]⟩
 ·rw[Nu];unfold f58;clear hi;generalize R (d+1)=rr at*;simp[M,N,T,U,W,S,Sk,E,lb,I,pc,s1,G,H,Sl,s2,bD]
 ·rw[O p λe=>h.ne (by rw[v,e]),F p λe=>h.ne (by rw[v,e])];exact h.st
end
section
variable {s t:St}{x y:S}{l m:List eG}
abbrev RI(s:St)(x:S)(l:List eG):Prop:=Rd 5 s x l.length (cells cI l)
abbrev FI(s0 s:St)(x:S)(l:List eG):Prop:=Fr 5 s0 s x l.length (cells cI l)
theorem RI.Ia(h:RI s x l){j:Nat}{n:Int}{a:eG}(g:n=j)(b:l[j]? = some a):∃c p,ar 5 (Z x) (J n)=some (Z (.ptr c p))/\aa (Z (.ptr c (p+0))) s.get=some (J a.i)/\ay 5 (Z (.ptr c p)) s.get=some (AI a):=by
 obtain⟨c,p,e,f,d⟩:=Rd.at h g (bq.1 b).1;rw[ji eY b]at d;exact⟨c,p,e,f 0 (.int .i64 a.i) (by omega) (by rw[jh eY b (by omega)];rfl),d⟩
def ny(id:Int):List eG->Nat->Int
 | [],_ => -1
 |a::l,n=>if a.i=id then(n:Int)else ny id l (n+1)
theorem Ht(d:Nat)(h:RI s x l)(N:l.length<=8000)(id:Int):R (d+1) 103 [Z x,J id] s=some (J (ny id l 0),s):=by
 rw[I7];unfold f103;have w:=h.lens
 obtain⟨j,Q,E,F,rfl⟩:=aL (f:=qp (R d) 8192)
  (λq v u=>∃n:Nat,q+n=l.length/\v=[Z x,J id,J (n:Int)]/\u=s/\ny id (l.drop n) n=ny id l 0)
  (λj u=>(j = .exit 0 []/\ny id l 0 = -1\/j = .ret (J (ny id l 0)))/\u=s) (by
  rintro q v u ⟨n,O,rfl,rfl,g⟩;by_cases o:n<l.length
  ·have B:l[n]? = some l[n]:=aU o;obtain⟨a,z⟩:=aZ (l[n]);rw[<-z]at B;rw[cU o,<-z]at g;have e:(if a.i=id then(n:Int)else ny id (l.drop (n+1)) (n+1))=ny id l 0:=g;obtain⟨c,p,C,D,_⟩:=h.Ia (n:=(n:Int)) rfl B;have k:ab 0 (Z (.ptr c p))=some (Z (.ptr c (p+0))):=rfl;have y:(n:Int)<(l.length:Int):=by omega
   have w1:IntKind.i64.wrap ((n:Int)+1)=((n+1:Nat):Int):=by rw[aw _ (by omega) (by omega)];omega
   by_cases hi:a.i=id
   ·right;rw[af hi]at e;refine⟨.ret (J (ny id l 0)),u,?_,(λv t=>by cases t),.inr rfl,rfl⟩;rw[<-e];unfold qp;clear g e;generalize p+0=G at*;simp[w,y,C,k,D,hi]
   ·left;rw[ae hi]at e;refine⟨[Z x,J id,J ((n+1:Nat):Int)],u,q-1,?_,by omega,n+1,by omega,rfl,rfl,e⟩;unfold qp;clear g e;generalize((n+1:Nat):Int)=I,p+0=G at*;simp[w,y,C,k,D,hi,w1]
  ·right;have r:n=l.length:=by omega
   subst r;rw[e7]at g;refine⟨.exit 0 [],u,?_,(λv t=>by cases t),.inl ⟨rfl,g.symm⟩,rfl⟩;unfold qp;simp[w]) 8192 l.length [Z x,J id,J 0] s ⟨0,by omega,rfl,rfl,by rw[ek]⟩ (by omega)
 rcases F with ⟨rfl,g⟩ | rfl
 ·rw[g];simp[E]
 ·generalize ny id l 0=H at*;simp[E]
theorem find_eq:∀(l:List eG) (id:Int) (n:Nat),(l.Pairwise λa b=>a.i<b.i)->ny id l n=if cH l id=true then((n+gv l id:Nat):Int)else -1
 | [],id,n,_=>rfl
 |a::l,id,n,r=>by
  have e:=eT.1 r;have t:=find_eq l id (n+1) e.2;show(if a.i=id then(n:Int)else ny id l (n+1))=_
  by_cases h:a.i=id
  ·have j:cH (a::l) id=true:=by simp[cH,h]
   have g:gv (a::l) id=0:=by simp[gv,jB,wM,h]
   rw[af h,j,g,af rfl];rfl
  ·rw[ae h,t];have j:cH (a::l) id=cH l id:=by simp[cH,h]
   rw[j];by_cases c:cH l id=true
   ·rw[af c,af c]
    have d:wM id a=true:=by
     unfold cH at c;rw[z8]at c;obtain⟨b,q,k⟩:=c;have:=e.1 b q;have o:b.i=id:=by simpa using k
     exact aK (by omega)
    have g:gv (a::l) id=gv l id+1:=(by simp[gv,jB,d]);rw[g]
    congr 1;omega
   ·rw[ae c,ae c]
abbrev An(l:List Int):List S:=l.map (S.int .i64)
theorem LI(d:Nat){is:List Int}(h:Rd 1 s x is.length (An is))(F:is.length<=8000)(id:Int):R (d+1) 105 [Z x,J id] s=some (B (decide (id∈is)),s):=by
 rw[I9];unfold f105;have o:=h.lens
 obtain⟨j,H,y,D,rfl⟩:=aL (f:=qq (R d) 8192)
  (λq v u=>∃n:Nat,q+n=is.length/\v=[Z x,J id,J (n:Int)]/\u=s/\id∉is.take n)
  (λj u=>(j = .exit 0 []/\id∉is\/j = .ret (B true)/\id∈is)/\u=s) (by
  rintro q v u ⟨n,G,rfl,rfl,c⟩;by_cases e:n<is.length
  ·have C:is[n]? = some is[n]:=aU e;obtain⟨p,t,w⟩:=h.CJ (j:=n) (i:=(n:Int)) (v := .int .i64 is[n]) rfl (by simp[An,e]);have r:(n:Int)<(is.length:Int):=by omega
   have w1:IntKind.i64.wrap ((n:Int)+1)=((n+1:Nat):Int):=by rw[aw _ (by omega) (by omega)];omega
   by_cases hi:is[n]=id
   ·right;refine⟨.ret (B true),u,?_,(λv k=>by cases k),.inr ⟨rfl,by rw[<-hi];exact mY e⟩,rfl⟩;unfold qq;simp[o,r,t,w,hi]
   ·left;refine⟨[Z x,J id,J ((n+1:Nat):Int)],u,q-1,?_,by omega,n+1,by omega,rfl,rfl,?_⟩
    ·unfold qq;simp[o,r,t,w,hi,w1]
    ·rw[cM,C];intro E;rcases dP.1 E with h1 | h1
     ·exact c h1
     ·have z:id=is[n]:=by simpa using h1
      exact hi z.symm
  ·right;have g:n=is.length:=by omega
   subst g;rw[dE]at c;refine⟨.exit 0 [],u,?_,(λv k=>by cases k),.inl ⟨rfl,c⟩,rfl⟩;unfold qq;simp[o]) 8192 is.length [Z x,J id,J 0] s ⟨0,by omega,rfl,rfl,by simp⟩ (by omega)
 rcases D with ⟨rfl,c⟩ | ⟨rfl,c⟩
 ·rw[aR c];simp[y]
 ·rw[aK c];simp[y]
theorem L4(Q:s.wf)(h:RI s x l)(w:∀c,own x=some c->c<s.size)(R:l.length<=8000){k r:Nat}(G:k<=l.length)(H:r<=l.length) :
 ∃E q y u,aE s (aN 0 (aA [] []))=some (Z (.sl s.size 0 0 (.known 0)),E)/\aB 5 (Z x) none (some (J (k:Int))) none=some (Z q)/\aF 5 40 (Z (.sl s.size 0 0 (.known 0))) (Z q) E=some (Z y,u) ∧
  FI s u y (l.take k)/\∃d,aB 5 (Z x) (some (J (r:Int))) none none=some (Z d)/\(own d=none\/own d=own x)/\RI s d (l.drop r):=by
 have C:=Fr.lit 5 Q (n:=0) (vs:=[]) rfl;obtain⟨q,N,j,z⟩:=Rd.upto h G;rw[fp eY]at j
 have I:∀c,own q=some c->c<s.size:=λc t=>by
  rcases z with e | e
  ·rw[e]at t;cases t
  ·rw[e]at t;exact w c t
 have g:(l.take k).length=k:=by rw[bb];omega
 obtain⟨y,u,F,D,_⟩:=C.append (by_:=40) (by omega) (j.gr I C.gr).src (by rw[dn (e:=5) eY,g]) (by omega);simp only[a7,dD]at D;obtain⟨d,O,o,B⟩:=Rd.pS h H;rw[hG eY]at o;refine⟨_,q,y,u,rfl,N,F,?_,d,O,B,?_⟩
 ·unfold FI;rw[g];exact D
 ·unfold RI;rw[fK];exact o
theorem Cb(d:Nat)(Sv:s.wf)(h:RI s x l)(H:∀c,own x=some c->c<s.size)(hl:l.length<=8000)(a:eG):∃y t,R (d+1) 106 [Z x,AI a] s=some (Z y,t)/\FI s t y (r5 l a):=by
 rw[Ja];unfold f106;have V:=h.lens;obtain⟨n,hn⟩:=aZ (s.size);obtain⟨s1,C⟩:=aZ (s.push (.K true (cI a)));have X:aE s (b6 (AI a))=some (Z (.ptr n 0),s1):=by rw[C,hn];rfl
 have F:Gr s s1:=by rw[C];exact Gr.push Sv _
 have b1:s1.get n=some (.K true (cI a)):=by rw[C,hn];exact St.ec
 have h1:RI s1 x l:=h.gr H F;have ai:aa (Z (.ptr n 0)) s1.get=some (J a.i):=ag b1 rfl
 obtain⟨j,Sl,lp,rfl,rfl⟩:=aL (f:=qs (R d) 8192)
  (λq v u=>∃k:Nat,q+k=l.length/\v=[Z x,Z (.ptr n 0),J (k:Int)]/\u=s1/\∀(b:Nat) (z:eG),b<k->l[b]? = some z->wM a.i z=true)
  (λj u=>j = .exit 0 [Z x,Z (.ptr n 0),J ((gv l a.i:Nat):Int)]/\u=s1) (by
  rintro q v u ⟨k,hk,rfl,rfl,Q⟩;by_cases g:k<l.length
  ·have N:l[k]? = some l[k]:=aU g;obtain⟨z,hz⟩:=aZ (l[k]);rw[<-hz]at N;obtain⟨c,p,ix,Sn,_⟩:=h1.Ia (n:=(k:Int)) rfl N;have E:ab 0 (Z (.ptr c p))=some (Z (.ptr c (p+0))):=rfl;have Sm:(k:Int)<(l.length:Int):=by omega
   have w1:IntKind.i64.wrap ((k:Int)+1)=((k+1:Nat):Int):=by rw[aw _ (by omega) (by omega)];omega
   by_cases hi:z.i<a.i
   ·left;refine⟨[Z x,Z (.ptr n 0),J ((k+1:Nat):Int)],u,q-1,?_,by omega,k+1,by omega,rfl,rfl,λb w Sp r => ?_⟩
    ·unfold qs;generalize((k+1:Nat):Int)=N1,p+0=p0 at*;simp[V,Sm,ix,E,Sn,ai,hi,w1]
    ·by_cases e:b=k
     ·subst e;rw[N]at r;cases r;exact aK hi
     ·exact Q b w (by omega) r
   ·right;have B:gv l a.i=k:=zE l k (by omega) Q (λw r=>by rw[N]at r;cases r;exact aR hi);refine⟨_,u,?_,(λv U=>by cases U),rfl,rfl⟩;rw[B];unfold qs;generalize p+0=p0 at*;simp[V,Sm,ix,E,Sn,ai,hi]
  ·right;have S:k=l.length:=by omega
   subst S;have B:gv l a.i=l.length:=zE l _ (au _) Q (λw r=>by have:=(bq.1 r).1;omega);refine⟨_,u,?_,(λv U=>by cases U),rfl,rfl⟩;rw[B];unfold qs;simp[V]) 8192 l.length [Z x,Z (.ptr n 0),J 0] s1 ⟨0,by omega,rfl,rfl,λb z Sp=>by omega⟩ (by omega)
 have G:∀c,own x=some c->c<Sl.size:=λc o=>bh (H c o) F.2.1
 have g:=y5 l a.i;obtain⟨u1,y1,y,D,n1,p1,e1,O,y2,p2,Y,Sj⟩:=L4 F.wf h1 G hl g g;have b2:D.get n=some (.K true (cI a)):=O.gr.get b1 F.wf
 have Su:ay 5 (Z (.ptr n 0)) D.get=some (AI a):=by
  simp only[ay,b2];rw[af (by simp[cI])];rfl
 have L:=Fr.lit 5 O.gr.wf (n:=1) (vs:=cells cI [a]) (by simp[cI]);obtain⟨u3,I⟩:=aZ (D.push (.K true (cells cI [a])));rw[<-I]at L;have n3:aE D (aN 1 (aA [iz,iz,iz,iz,.int .u32 0] [(0,5,AI a)]))=some (Z (.sl D.size 0 1 (.known 1)),u3):=by rw[I];rfl
 obtain⟨y4,u4,e4,f4,_⟩:=(O.j6 L.gr).append (by_:=40) (by omega) L.rd.src (by simp[cI]) (by simp;omega)
 have o2:∀c,own y2=some c->c<Sl.size:=λc o=>by
  rcases Y with e | e
  ·rw[e]at o;cases o
  ·rw[e]at o;exact G c o
 have Sk:RI u4 y2 (l.drop (gv l a.i)):=Sj.gr o2 f4.gr;have Sr:(l.drop (gv l a.i)).length=l.length-gv l a.i:=by simp
 have Ss:(l.take (gv l a.i)).length=gv l a.i:=by rw[bb];omega
 obtain⟨Sw,u5,e5,f5,_⟩:=f4.append (by_:=40) (by omega) Sk.src (dn (e:=5) eY _) (by omega);refine⟨Sw,u5,?_,?_⟩
 ·generalize((gv l a.i:Nat):Int)=K at*;generalize Sl.size=zt,D.size=z2 at*;simp[X,lp,n1,p1,e1,Su,n3,e4,p2,e5]
 ·have o:cells cI (r5 l a)=cells cI (l.take (gv l a.i))++cells cI [a]++cells cI (l.drop (gv l a.i)):=by simp[r5,cells]
  have T:(r5 l a).length=(l.take (gv l a.i)).length+1+(l.drop (gv l a.i)).length:=by simp[r5];omega
  unfold FI;rw[o,T];exact f5.from F
theorem R6(a b:eG):xN (.a 5 [(0,.i),(1,.i),(2,.i),(3,.i),(4,.i)]) (AI a) (AI b)=some (B (!decide (a=b))):=by
 have h:yt (.a 5 [(0,.i),(1,.i),(2,.i),(3,.i),(4,.i)]) (AI a) (AI b)=some (decide (a=b)):=by
  obtain⟨c,d,e,f,g⟩:=a;obtain⟨j,k,l,m,n⟩:=b;show some (decide (c=j)&&(decide (d=k)&&(decide (e=l)&&(decide (f=m)&&(decide (g=n)&&true)))))=some (decide (eG.mk c d e f g=eG.mk j k l m n))
  simp only[eG.mk.injEq,np,p6]
 simp only[xN,h]
theorem HP{n:Nat}(h:l.take n=m.take n){a b:eG}(c:l[n]? = some a)(d:m[n]? = some b)(e:a=b):l.take (n+1)=m.take (n+1):=by
 rw[cM,cM,h,c,d,e]
theorem DO(d:Nat)(h:RI s x l)(k:RI s y m)(X:l.length<=8000):R (d+1) 66 [Z x,Z y] s=some (B (decide (l=m)),s):=by
 rw[NA];unfold f66;have t:=h.lens;have lm:=k.lens;by_cases o:l.length=m.length
 ·have D:(l.length:Int)=(m.length:Int):=by omega
  obtain⟨j,Sj,O,U,rfl⟩:=aL (f:=vk (R d) 8192)
   (λq v u=>∃n:Nat,q+n=l.length/\v=[Z x,Z y,J (n:Int)]/\u=s/\l.take n=m.take n)
   (λj u=>(j = .exit 0 []/\l=m\/j = .ret (B false)/\l≠m)/\u=s) (by
   rintro q v u ⟨n,Y,rfl,rfl,r⟩;by_cases E:n<l.length
   ·have w:l[n]? = some l[n]:=aU E;have g:m[n]? = some m[n]:=aU (by omega);obtain⟨a,Q⟩:=aZ (l[n]);obtain⟨b,S⟩:=aZ (m[n]);rw[<-Q]at w;rw[<-S]at g;obtain⟨c,p,I,_,N⟩:=h.Ia (n:=(n:Int)) rfl w;obtain⟨V,p',z,_,C⟩:=k.Ia (n:=(n:Int)) rfl g;have ne:=R6 a b;have H:(n:Int)<(l.length:Int):=(by omega);have w1:IntKind.i64.wrap ((n:Int)+1)=((n+1:Nat):Int):=(by rw[aw _ (by omega) (by omega)];omega);by_cases e:a=b
    ·left;rw[aK e]at ne;refine⟨[Z x,Z y,J ((n+1:Nat):Int)],u,q-1,?_,by omega,n+1,by omega,rfl,rfl,HP r w g e⟩;unfold vk;simp[t,H,I,N,z,C,ne,w1]
    ·right;rw[aR e]at ne;refine⟨.ret (B false),u,?_,(λv G=>by cases G),.inr ⟨rfl,λT=>e (by rw[T]at w;rw[w]at g;cases g;rfl)⟩,rfl⟩;unfold vk;simp[t,H,I,N,z,C,ne]
   ·right;have F:n=l.length:=(by omega);subst F;rw[dE,o,dE]at r;refine⟨.exit 0 [],u,?_,(λv G=>by cases G),.inl ⟨rfl,r⟩,rfl⟩;unfold vk;simp[t]) 8192 l.length [Z x,Z y,J 0] s ⟨0,by omega,rfl,rfl,by simp⟩ (by omega)
  rcases U with ⟨rfl,r⟩ | ⟨rfl,r⟩
  ·rw[aK r];simp[t,lm,D,O]
  ·rw[aR r];simp[t,lm,D,O]
 ·have D:¬(l.length:Int)=(m.length:Int):=by omega
  rw[aR (λh=>o (by rw[h]))];simp[t,lm,D]
end
section
variable {s t u:St}{x y:S}{e n p i k:Nat}{vs:List S}{room:Int}{fs:List wB}{nm b:Bs}{f:wB}
theorem Ob(a b:Bs):ah .lss (Z (.str a)) (Z (.str b))=some (B (Op.bytesLess a b)):=by simp[ah,Az]
theorem LR(d:Nat)(h:kX s p room x fs)(hl:fs.length<=1000)(Sk:∀z∈fs,Op.bytesLess z.nm f.nm=true):∃y t,R (d+1) 40 [Z (.ptr p 0),Qh f] s=some (.c6 [],t)/\kX t p room y (fs++[f])/\s.size<=t.size/\(∀c,c<s.size->c≠p->t.get c=s.get c)/\∀c,own y=some c->s.size<=c:=by
 have S:ba (Z (.ptr p 0))=some (Z (.ptr p 0)):=rfl;obtain⟨n,hn⟩:=aZ (s.size);obtain⟨s1,w⟩:=aZ (s.push (.K true (Ez f)));have Sl:aE s (b6 (Qh f))=some (Z (.ptr n 0),s1):=by rw[w,hn];rfl
 have g1:Gr s s1:=by rw[w];exact Gr.push h.wf _
 have b1:s1.get n=some (.K true (Ez f)):=by rw[w,hn];exact St.ec
 have z1:s1.size=s.size+1:=by rw[w];simp
 have r:=h.gr g1;have Sn:=r.l1;have Sp:=r.ow.rd.lens;have ai:aa (Z (.ptr n 0)) s1.get=some (Z (.str f.nm)):=ag b1 rfl
 obtain⟨j,Q,lp,rfl,rfl⟩:=aL (f:=yS (R d) 8192)
  (λq v u=>∃k:Nat,q+k=fs.length/\v=[Z (.ptr p 0),Z (.ptr n 0),J (k:Int)]/\u=s1)
  (λj u=>j = .exit 0 [Z (.ptr p 0),Z (.ptr n 0),J (fs.length:Int)]/\u=s1) (by
  rintro q v u ⟨k,hk,rfl,rfl⟩;by_cases Sj:k<fs.length
  ·left;have X:fs[k]? = some fs[k]:=aU Sj;obtain⟨z,hz⟩:=aZ (fs[k]);rw[<-hz]at X;obtain⟨c,o,ix,ln,_,_⟩:=r.at (i:=(k:Int)) rfl X;have Sr:(k:Int)<(fs.length:Int):=by omega
   have w1:IntKind.i64.wrap ((k:Int)+1)=((k+1:Nat):Int):=by rw[aw _ (by omega) (by omega)];omega
   have ls:=Ob z.nm f.nm;rw[Sk z (bS X)]at ls;refine⟨[Z (.ptr p 0),Z (.ptr n 0),J ((k+1:Nat):Int)],u,q-1,?_,by omega,k+1,by omega,rfl,rfl⟩;unfold yS;simp[S,Sn,Sp,Sr,ix,ln,ai,ls,w1,bD]
  ·right;have Y:k=fs.length:=by omega
   subst Y;refine⟨_,u,?_,(λv hv=>by cases hv),rfl,rfl⟩;unfold yS;simp[S,Sn,Sp,bD]) 8192 fs.length [Z (.ptr p 0),Z (.ptr n 0),J 0] s1 ⟨0,by omega,rfl,rfl⟩ (by omega)
 have T:=Fr.lit 3 r.wf (n:=0) (vs:=[]) rfl;obtain⟨u1,G⟩:=aZ (Q.push (.K true []));rw[<-G]at T;have n1:aE Q (aN 0 (aA [] []))=some (Z (.sl Q.size 0 0 (.known 0)),u1):=by rw[G];rfl
 have hu:=r.gr T.gr;have lu:=hu.l1;obtain⟨y1,p1,N,Sw⟩:=Rd.upto hu.ow.rd (au _);rw[fp gj,dE]at N;obtain⟨y2,D,e2,B,_⟩:=T.append (by_:=40) (by omega) N.src (by rw[dn (e:=3) gj]) (by omega);simp only[a7,dD]at B;have b2:D.get n=some (.K true (Ez f)):=B.gr.get b1 r.wf
 have Sv:ay 3 (Z (.ptr n 0)) D.get=some (Qh f):=by
  simp only[ay,b2];rw[af (by simp[Ez])];rfl
 have L:=Fr.lit 3 B.gr.wf (n:=1) (vs:=cells Ez [f]) (by simp[Ez]);obtain⟨u3,H⟩:=aZ (D.push (.K true (cells Ez [f])));rw[<-H]at L;have n3:aE D (aN 1 (aA [.str [],.str [],iz] [(0,3,Qh f)]))=some (Z (.sl D.size 0 1 (.known 1)),u3):=by rw[H];rfl
 obtain⟨y4,u4,e4,f4,_⟩:=(B.j6 L.gr).append (by_:=40) (by omega) L.rd.src (by simp[Ez]) (by omega);have h4:=r.gr f4.gr;have l4:=h4.l1;obtain⟨y5,p5,O,Sx⟩:=Rd.pS h4.ow.rd (au _);rw[zX,hG gj,e7]at O;obtain⟨y6,u6,e6,E,_⟩:=f4.append (by_:=40) (by omega) O.src (by simp) (by omega);have U:=r.gr E.gr;have Ss:y6=y6:=rfl;have Su:=h.pl;have I:∀c,own y6=some c->Q.size<=c:=λc C=>(E.new c C).1
 obtain⟨u7,g⟩:=aZ (u6.set p (.K true [.int .i64 room,y6]));have Sm:aj 1 (Z (.ptr p 1)) (Z y6) u6=some (tt,u7):=by rw[g];exact aJ U.st (by simp)
 have F:own y6≠some p:=λe=>by have:=I p e;omega
 have ck:aa (Z (.ptr p 1)) (cl 0 D.get (wC 3 D.size (aN 1 (aA [.str [],.str [],iz] [(0,3,Qh f)])) []))=aa (Z (.ptr p 1)) u4.get:=by
  refine(xS (r.gr B.gr).st (r.gr B.gr).st (x:=x) rfl λq j bk hm => ?_).trans ?_
  ·rcases qQ hm with rfl | hm
   ·have:=B.gr.2.1;omega
   ·cases hm
  ·rw[(r.gr B.gr).l1,l4]
 refine⟨y6,u7,?_,⟨by rw[g];exact St.wf_set U.wf U.pl _,by rw[g];exact St.dh,?_,F⟩,?_,λc C V => ?_,λc C=>by have:=I c C;omega⟩
 ·rw[Nh];unfold f40;simp[Sl,lp,n1,S,lu,p1,e2,Sv,n3,e4,l4,p5,e6,Sm,ck,aD,a8]
 ·have:cells Ez (fs++[f])=cells Ez fs++cells Ez [f]++[]:=by simp[cells]
  rw[this,aI];exact E.ow.keep λc C=>by rw[g];exact St.bO λe=>F (by rw[<-e];exact C)
 ·rw[g];have:=E.gr.2.1;simp;omega
 ·rw[g,St.bO V,E.gr.2.2 c (by omega),g1.2.2 c C]
theorem tw(d:Nat)(h:kX s p room x fs)(G:fs.length<=100)(g:∀z∈fs,z.nm≠nm)(a:∀z∈fs,Op.bytesLess z.nm nm=true)(i:nX nm=true)(e:nm.length<=8000)(H:(lW fs+b.length:Nat)<=room)(v:room<=1000000) :
 ∃y t,R (d+2) 13 [Z (.ptr p 0),Z (.str nm),Z (.str b)] s=some (J 0,t)/\kX t p room y (fs++[⟨nm,b,0⟩])/\s.size<=t.size/\(∀c,c<s.size->c≠p->t.get c=s.get c)/\∀c,own y=some c->s.size<=c:=by
 have m:ba (Z (.ptr p 0))=some (Z (.ptr p 0)):=rfl;have j:=oS d h (by omega) nm;rw[y2 0 fs g]at j;have k:=kW (s:=s) (b:=nm) d e;rw[i]at k;have A:=h.l0;have B:=h.l1;have D:=h.ow.rd.lens;have q:=yc d h (by omega) (by omega);have n:¬(200:Int)<=(fs.length:Int):=by omega
 have w1:IntKind.i64.wrap (room-((lW fs:Nat):Int))=room-((lW fs:Nat):Int):=aw _ (by omega) (by omega);have o:¬room-((lW fs:Nat):Int)<(b.length:Int):=by omega
 have C:aV (Z (.str b))=some (J b.length):=rfl;have l:aO (aA [.str [],.str [],iz] [(0,1,Z (.str nm)),(1,1,Z (.str b))])=some (Qh ⟨nm,b,0⟩):=rfl;obtain⟨y,t,r,u,F,w,E⟩:=LR (f:=⟨nm,b,0⟩) d h (by omega) a;refine⟨y,t,?_,u,F,w,E⟩;rw[M1];unfold f13;generalize R (d+1)=I at*;simp[j,k,m,B,D,n,C,A,q,w1,o,l,r,wq,bD]
theorem OT(d:Nat)(h:kX s p room x fs)(hl:fs.length<=1000)(Q:nm.length<=8000)(S:nX nm=true)(hi:lU nm 0 fs=(k:Nat))(hk:k<fs.length) :
 ∃y t,R (d+2) 65 [Z (.ptr p 0),Z (.str nm)] s=some (J 0,t)/\kX t p room y (fs.take k++fs.drop (k+1))/\s.size<=t.size/\(∀c,c<s.size->c≠p->t.get c=s.get c)/\∀c,own y=some c->s.size<=c:=by
 have an:ba (Z (.ptr p 0))=some (Z (.ptr p 0)):=rfl;have U:=oS d h hl nm;rw[hi]at U;have V:=kW (s:=s) (b:=nm) d Q;rw[S]at V;have Sj:¬(k:Int)<0:=by omega
 have w1:IntKind.i64.wrap ((k:Int)+1)=((k+1:Nat):Int):=by rw[aw _ (by omega) (by omega)];omega
 have H:=Fr.lit 3 h.wf (n:=0) (vs:=[]) rfl;obtain⟨u1,C⟩:=aZ (s.push (.K true []));rw[<-C]at H;have n1:aE s (aN 0 (aA [] []))=some (Z (.sl s.size 0 0 (.known 0)),u1):=by rw[C];rfl
 have Y:=h.gr H.gr;have lu:=Y.l1;obtain⟨y1,p1,E,Sl⟩:=Rd.upto Y.ow.rd (hi:=k) (by omega);rw[fp gj]at E;have z:(fs.take k).length=k:=by rw[bb];omega
 obtain⟨y2,u2,e3,I,_⟩:=H.append (by_:=40) (by omega) E.src (by rw[dn (e:=3) gj,z]) (by omega);simp only[a7,dD]at I;have X:=h.gr I.gr;have l2:=X.l1;obtain⟨y5,p5,F,Sm⟩:=Rd.pS X.ow.rd (lo:=k+1) (by omega);rw[hG gj]at F;have u:(fs.drop (k+1)).length=fs.length-(k+1):=by simp
 obtain⟨G,u6,e6,o,_⟩:=I.append (by_:=40) (by omega) F.src (by rw[dn (e:=3) gj,u]) (by omega);have N:=h.gr o.gr;have Sk:=h.pl;have D:∀c,own G=some c->s.size<=c:=λc r=>(o.new c r).1
 obtain⟨u7,g⟩:=aZ (u6.set p (.K true [.int .i64 room,G]));have T:aj 1 (Z (.ptr p 1)) (Z G) u6=some (tt,u7):=by rw[g];exact aJ N.st (by simp)
 have B:own G≠some p:=λe=>by have:=D p e;omega
 have ck:aa (Z (.ptr p 1)) (cl 0 s.get (wC 1 s.size (aN 0 (aA [] [])) []))=aa (Z (.ptr p 1)) u2.get:=by
  refine(xS h.st h.st (x:=x) rfl λq j bk hm => ?_).trans ?_
  ·rcases qQ hm with rfl | hm
   ·omega
   ·cases hm
  ·rw[h.l1,l2]
 refine⟨G,u7,?_,⟨by rw[g];exact St.wf_set N.wf N.pl _,by rw[g];exact St.dh,?_,B⟩,?_,λc r O => ?_,D⟩
 ·rw[Nz];unfold f65;clear hi;generalize R (d+1)=rr,((k+1:Nat):Int)=K1 at*;simp[U,V,Sj,n1,an,lu,p1,e3,l2,w1,p5,e6,T,ck]
 ·have w:(fs.take k++fs.drop (k+1)).length=k+(fs.length-(k+1)):=by rw[aI,z,u]
  rw[dK,w];exact o.ow.keep λc r=>by rw[g];exact St.bO λe=>B (by rw[<-e];exact r)
 ·rw[g];have:=o.gr.2.1;simp;omega
 ·rw[g,St.bO O,o.gr.2.2 c r]
def u9:Bs:=[48,49,50,51,52,53,54,55,56,57]
theorem MT{m:Nat}(h:m<10):(u9.drop m).take 1=[UInt8.ofNat (48+m)]:=by
 have:∀m:Fin 10,(u9.drop m.val).take 1=[UInt8.ofNat (48+m.val)]:=by decide
 exact this ⟨m,h⟩
theorem xm{m:Nat}(h:m<10):bn (Z (.str u9)) (some (J m)) (some (J ((m+1:Nat):Int))) none=some (Z (.str [UInt8.ofNat (48+m)])):=by
 rw[iD (lo:=m) (hi:=m+1) rfl rfl (by omega) (by show m+1<=10;omega),o3,MT h]
theorem zt(d:Nat)(H:n<=1073741824):R (d+1) 108 [J n] s=some (Z (.str (fz 20 n)),s):=by
 obtain⟨j,Sj,I,m,acc,rfl,rfl,F,c,r⟩:=aL (f:=tU (R d) 8192)
  (λq v u=>∃(m g:Nat) (acc:Bs),q+20=g+20/\v=[J m,Z (.str acc)]/\u=s/\m<10 ^ (g+1)/\m<=1073741824/\fz (g+1) m++acc=fz 20 n/\acc.length<=20)
  (λj u=>∃(m:Nat) (acc:Bs),j = .exit 0 [J m,Z (.str acc)]/\u=s/\m<10/\[UInt8.ofNat (48+m)]++acc=fz 20 n/\acc.length<=20) (by
  rintro q v u ⟨m,g,acc,hq,rfl,rfl,t,G,e,r⟩;by_cases o:10<=m
  ·left;have z:Nat.ble 10 m=true:=dw o;rw[fz,z]at e;dsimp only at e
   have Y:0<g:=by
    rcases zS g with h0 | h0
    ·subst h0;simp at t;omega
    ·exact h0
   obtain⟨k,rfl⟩:∃k,g=k+1:=⟨g-1,by omega⟩;have B:m%10<10:=di _ (by decide);have N:ah .rem (J m) (J 10)=some (J ((m%10:Nat))):=jx .i64 m 10 (by decide);have O:ah .quo (J m) (J 10)=some (J ((m / 10:Nat))):=qW .i64 m 10 (by decide) (fJ _ (by omega));have w1:IntKind.i64.wrap (((m%10:Nat):Int)+1)=((m%10+1:Nat):Int):=by rw[aw _ (by omega) (by omega)];omega
   have w:=xm B;have x:=b7 [UInt8.ofNat (48+m%10)] acc (by simp;omega);have y:(9:Int)<(m:Int):=by omega
   refine⟨[J ((m / 10:Nat):Int),Z (.str ([UInt8.ofNat (48+m%10)]++acc))],u,k,?_,by omega,m / 10,k,[UInt8.ofNat (48+m%10)]++acc,by omega,rfl,rfl,?_,by omega,by rw[<-e];simp,?_⟩
   ·unfold tU;rw[show u9=[48,49,50,51,52,53,54,55,56,57] from rfl]at w;clear e;generalize [UInt8.ofNat (48+m%10)]++acc=Q at*;generalize [UInt8.ofNat (48+m%10)]=C,((m%10+1:Nat):Int)=D,((m%10:Nat):Int)=T,((m / 10:Nat):Int)=U at*;simp[y,N,w1,w,x,O]
   ·rw[zW]at t;omega
   ·have V:(fz (k+1) (m / 10)).length+(acc.length+1)=(fz 20 n).length:=(by rw[<-e];simp);have X:=nP 20 n;rw[aI,iV]
    first | omega | skip
  ·right;have z:Nat.ble 10 m=false:=gE.2 λh=>o (cm h)
   rw[fz,z]at e;have y:¬(9:Int)<(m:Int):=by omega
   refine⟨_,u,?_,(λv h=>by cases h),m,acc,rfl,rfl,by omega,e,r⟩;unfold tU;simp[y])
  8192 19 _ s ⟨n,19,[],by omega,rfl,rfl,by omega,H,by simp,by simp⟩ (by omega)
 have E:¬(n:Int)<0:=by omega
 have w1:IntKind.i64.wrap ((m:Int)+1)=((m+1:Nat):Int):=by rw[aw _ (by omega) (by omega)];omega
 have w:=xm F;have x:=b7 [UInt8.ofNat (48+m)] acc (by simp;omega);rw[c]at x;rw[Jc];unfold f108;rw[show u9=[48,49,50,51,52,53,54,55,56,57] from rfl]at w;clear c;generalize fz 20 n=S,[UInt8.ofNat (48+m)]=C,((m+1:Nat):Int)=D at*;simp[E,I,w1,w,x]
theorem Fe(d:Nat)(f:1<=n)(e:n<=1073741824):R (d+2) 61 [J n] s=some (Z (.str (cO n)),s):=by
 have c:=zt (s:=s) d e;have b:¬(n:Int)<1:=by omega
 have a:=b7 [115] (fz 20 n) (by have:=nP 20 n;simp;omega);rw[show [115]++fz 20 n=cO n from rfl]at a;rw[Nx];unfold f61;generalize R (d+1)=g at*;simp[b,c,a]
theorem LV(d:Nat):R (d+1) 64 [Z (.str fF)] s=some (B false,s):=by
 have ls:aV (Z (.str fF))=some (J 3):=rfl;have a0:bZ (Z (.str fF)) (J 0)=some (J8 108):=rfl;rw[EM];unfold f64;simp[ls,a0,bD]
theorem OU(d:Nat):R (d+1) 64 [Z (.str (bp 1))] s=some (B true,s):=by
 have ls:aV (Z (.str (bp 1)))=some (J 2):=rfl;have a0:bZ (Z (.str (bp 1))) (J 0)=some (J8 115):=rfl;have b:bZ (Z (.str (bp 1))) (J 1)=some (J8 49):=rfl
 have c:loops (pN (R d) 8192) 8192 [Z (.str (bp 1)),J 1] s=some (.exit 0 [],s):=by
  have g:IntKind.i64.wrap 2=2:=rfl
  have e:pN (R d) 8192 [Z (.str (bp 1)),J 1] s=some (.normal [Z (.str (bp 1)),J 2],s):=by
   unfold pN;simp[ls,b,g,bD]
  have f:pN (R d) 8192 [Z (.str (bp 1)),J 2] s=some (.exit 0 [],s):=by
   unfold pN;simp[ls]
  have a:∀F:Nat,loops (pN (R d) 8192) (F+2) [Z (.str (bp 1)),J 1] s=some (.exit 0 [],s):=λF=>by
   rw[loops,e];dsimp only;rw[loops,f]
  exact a (8192-2)
 rw[EM];unfold f64;simp[ls,a0,b,c,bD]
end
def bE(bs:Bs)(r:Rr):Nat×Rr:=if r.bad=true then(0,r)else nx bs r
theorem fD{bs:Bs}{r:Rr}(h:r.bad=false):bE bs r=nx bs r:=by unfold bE;rw[ae (by rw[h];simp)]
theorem LM(b:Bs)(r:Rr):ki b r.at_ r.bad=((bE b r).1,(bE b r).2.at_,(bE b r).2.bad):=by
 obtain⟨a,bad⟩:=r;unfold ki bE nx;cases bad with
 |true=>rfl
 |false=>cases c:fY b a<;>simp[c]
theorem K6{bs:Bs}{r:Rr}(h:(nx bs r).2.bad=false):r.bad=false:=by
 unfold nx at h;cases c:fY bs r.at_ with
 |none=>rw[c]at h;cases h
 |some p=>rw[c]at h;exact h
theorem mL(bs:Bs)(r:Rr):(bE bs r).1<2 ^ 64:=by
 unfold bE;split
 ·exact Nat.two_pow_pos 64
 ·exact pn bs r
def l6(bs:Bs):Nat->List gq->Int->Rr->List gq×Rr
 | 0,acc,_,r=>(acc,r)
 |m+1,acc,step,r=>if r.bad=true then(acc,r)else
  match acc.getLast? with
  |none=>l6 bs m [⟨W6 (bE bs r).1,fc (bE bs (bE bs r).2).1⟩] step (bE bs (bE bs r).2).2
  |some was=>l6 bs m (acc++[⟨W6 (was.t+W6 (step+fc (bE bs r).1)),W6 (was.v+fc (bE bs (bE bs r).2).1)⟩]) (W6 (step+fc (bE bs r).1)) (bE bs (bE bs r).2).2
def kI(bs:Bs)(most:Nat)(r:Rr):Nat×Rr:=if most<(bE bs r).1 then(0,⟨(bE bs r).2.at_,true⟩)else bE bs r
theorem uY{bs:Bs}{m:Nat}{acc:List gq}{step:Int}{r:Rr}(h:(fP bs m acc step r).2.bad=false):r.bad=false:=by
 cases m with
 |zero=>exact h
 |succ m=>
  rw[fP]at h;by_cases c:r.bad=true
  ·rw[af c]at h;exact h
  ·simpa using c
theorem yK(bs:Bs):∀(m:Nat) (acc:List gq) (step:Int) (r:Rr),(fP bs m acc step r).2.bad=false->l6 bs m acc step r=fP bs m acc step r
 | 0,acc,step,r,h=>rfl
 |m+1,acc,step,r,h=>by
  have e:=uY h;have c:¬r.bad=true:=by rw[e];simp
  rw[fP,ae c]at h;rw[l6,fP,ae c,ae c];cases g:acc.getLast? with
  |none=>
   rw[g]at h;dsimp only at h ⊢;have d:=K6 (uY h);rw[fD e,fD d];exact yK bs m _ _ _ h
  |some was=>
   rw[g]at h;dsimp only at h ⊢;have d:=K6 (uY h);rw[fD e,fD d];exact yK bs m _ _ _ h
theorem yH{bs pre post:Bs}{n most:Nat}(b:bs=pre++(aq n++post))(d:n<2 ^ 64)(c:n<=most):kI bs most ⟨pre.length,false⟩=(n,⟨(pre++aq n).length,false⟩):=by
 have a:=eR (bad:=false) b d;unfold kI;rw[fD rfl,a,ae (by simpa using c)]
theorem ID{bs pre:Bs}{l:List gq}(d:bs=pre++b5 l)(h:ug l=true)(y:∀x∈l,I6 x.v):∃e,l6 bs (kI bs 64 ⟨pre.length,false⟩).1 [] 0 (kI bs 64 ⟨pre.length,false⟩).2=(l,⟨e,false⟩):=by
 have g:=h;unfold ug at g;rw[aM]at g;have c:=cm g.2
 have w:∀x∈l,I6 x.t/\0<=x.t:=λx j=>by
  have:=jq g.1 x j;unfold I6;omega
 cases l with
 |nil=>
  rw[yH (n:=0) (post:=[]) (by rw[d];simp[b5]) (by decide) (by decide)];exact⟨_,rfl⟩
 |cons a r=>
  rw[bB]at c;rw[yH (n:=r.length+1) (post:=hU a++gN 0 a r) (by rw[d];simp[b5]) (by omega) c];dsimp only;obtain⟨k,D⟩:=w a eF;have o:=y a eF;have z:nx bs ⟨(pre++aq (r.length+1)).length,false⟩=(a.t.toNat,⟨(pre++aq (r.length+1)++aq a.t.toNat).length,false⟩):=eR (post:=aq (cZ a.v)++gN 0 a r) (by rw[d];simp[b5,hU,bg]) (by unfold I6 at k;omega);have B:nx bs ⟨(pre++aq (r.length+1)++aq a.t.toNat).length,false⟩=(cZ a.v,⟨(pre++aq (r.length+1)++aq a.t.toNat++aq (cZ a.v)).length,false⟩):=eR (post:=gN 0 a r) (by rw[d];simp[b5,hU,bg]) (fE o);have C:W6 (a.t.toNat:Int)=a.t:=by rw[show(a.t.toNat:Int)=a.t by omega,jf k]
  have q:=rL r (bs:=bs) (pre:=pre++aq (r.length+1)++aq a.t.toNat++aq (cZ a.v)) (post:=[]) (acc:=[a]) (step:=0) (was:=a) (by rw[d];simp[b5,hU,bg]) rfl (by unfold I6;omega) k o (λx j=>⟨(w x (dC _ j)).1,y x (dC _ j)⟩);have u:=yK bs _ _ _ _ (by rw[q]);rw[q]at u;refine⟨(pre++aq (r.length+1)++aq a.t.toNat++aq (cZ a.v)++gN 0 a r).length,?_⟩;rw[l6,ae (by simp)];simp only[Fs];rw[fD rfl,z,fD rfl,B];simp only[mV,C];exact u
abbrev U6(n:Int):Int:=IntKind.u64.wrap n
def Hn(bs:Bs)(r:Rr):Rr:=if 1099511627776<(bE bs r).1 then⟨(bE bs r).2.at_,true⟩else(bE bs r).2
def Rn(bs:Bs)(w:Int)(prev:Option Int)(r:Rr):Int:=match prev with
 |none=>((bE bs r).1:Nat)
 |some p=>U6 (U6 (((bE bs r).1:Nat)+1)+(U6 p) / w)
def Lw(bs:Bs)(w:Int)(prev:Option Int)(r:Rr):e8×Rr:=
 let F:=Rn bs w prev r
 let c:=Hn bs r
 let n:Int:=(((bE bs c).1%4611686018427387904:Nat):Int)+1
 let d:=(bE bs c).2
 let a:=fc (bE bs d).1
 let b:=(bE bs d).2
 if 1<n then
  let e:=(bE bs b).2
  let f:=(bE bs e).2
  let g:=(bE bs f).2
  (⟨W6 (F*w),n,fc (bE bs e).1,a,W6 (a+(bE bs b).1),W6 (a+(bE bs f).1),W6 (a+(bE bs g).1)⟩,(bE bs g).2)
 else(⟨W6 (F*w),n,a,a,a,a,a⟩,b)
def kA(bs:Bs)(w:Int):Nat->List e8->Rr->List e8×Rr
 | 0,acc,r=>(acc,r)
 |m+1,acc,r=>if r.bad=true then(acc,r)else kA bs w m (acc++[(Lw bs w (acc.getLast?.map e8.f) r).1]) (Lw bs w (acc.getLast?.map e8.f) r).2
theorem PZ(bs:Bs)(w:Int)(prev:Option Int)(r:Rr):IA (Lw bs w prev r).1:=by
 have a:∀n:Nat,I6 (((n%4611686018427387904:Nat):Int)+1):=λn=>by unfold I6;omega
 unfold Lw;dsimp only;split
 ·exact⟨ei _,a _,gD (mL _ _),gD (mL _ _),ei _,ei _,ei _⟩
 ·exact⟨ei _,a _,gD (mL _ _),gD (mL _ _),gD (mL _ _),gD (mL _ _),gD (mL _ _)⟩
theorem AU(bs:Bs)(w:Int):∀(m:Nat) (acc:List e8) (r:Rr),(∀a∈acc,IA a)->∀a∈(kA bs w m acc r).1,IA a
 | 0,acc,r,h,a,c=>h a c
 |m+1,acc,r,h,a,c=>by
  rw[kA]at c;split at c
  ·exact h a c
  ·refine AU bs w m _ _ (λb hb => ?_) a c;rcases dP.1 hb with hb | hb
   ·exact h b hb
   ·rw[df]at hb;rw[hb];exact PZ ..
theorem xj(bs:Bs)(w:Int):∀(m:Nat) (acc:List e8) (r:Rr),(kA bs w m acc r).1.length<=acc.length+m
 | 0,acc,r=>by simp[kA]
 |m+1,acc,r=>by
  rw[kA];split
  ·simp
  ·have:=xj bs w m (acc++[(Lw bs w (acc.getLast?.map e8.f) r).1]) (Lw bs w (acc.getLast?.map e8.f) r).2;rw[aI,iV]at this;omega
theorem yJ(bs:Bs):∀(m:Nat) (acc:List gq) (step:Int) (r:Rr),(∀a∈acc,I6 a.t/\I6 a.v)->∀a∈(l6 bs m acc step r).1,I6 a.t/\I6 a.v
 | 0,acc,step,r,h,a,c=>h a c
 |m+1,acc,step,r,h,a,c=>by
  rw[l6]at c;split at c
  ·exact h a c
  ·cases d:acc.getLast? with
   |none=>
    rw[d]at c;refine yJ bs m _ _ _ (λb hb => ?_) a c;rw[df]at hb;rw[hb];exact⟨ei _,gD (mL _ _)⟩
   |some was=>
    rw[d]at c;refine yJ bs m _ _ _ (λb hb => ?_) a c;rcases dP.1 hb with hb | hb
    ·exact h b hb
    ·rw[df]at hb;rw[hb];exact⟨ei _,ei _⟩
theorem uX(bs:Bs):∀(m:Nat) (acc:List gq) (step:Int) (r:Rr),(l6 bs m acc step r).1.length<=acc.length+m
 | 0,acc,step,r=>by simp[l6]
 |m+1,acc,step,r=>by
  rw[l6];split
  ·simp
  ·cases c:acc.getLast? with
   |none=>
    have:=uX bs m [⟨W6 (bE bs r).1,fc (bE bs (bE bs r).2).1⟩] step (bE bs (bE bs r).2).2;simp only[iV]at this;dsimp only;omega
   |some was=>
    have:=uX bs m (acc++[⟨W6 (was.t+W6 (step+fc (bE bs r).1)),W6 (was.v+fc (bE bs (bE bs r).2).1)⟩]) (W6 (step+fc (bE bs r).1)) (bE bs (bE bs r).2).2;rw[aI,iV]at this;dsimp only;omega
theorem OM{bs pre post:Bs}{w last:Int}{prev:Option Int}{x:e8}(hw:1<=w/\w<=1440)(Sk:jl x=true)(hi:IA x)(Sj:x.f%w=0)(R:(prev=none/\last = -1)\/∃p,prev=some p/\0<=p/\p<=1099511627776/\last=p / w)(H:last<x.f / w)(k:bs=pre++(da x (x.f / w-last-1)++post)) :
 Lw bs w prev ⟨pre.length,false⟩=(x,⟨(pre++da x (x.f / w-last-1)).length,false⟩):=by
 obtain⟨⟨n1,n2,O,f1⟩,C,m1,m2,m3,m4,m5⟩:=dF Sk;have D:0<=x.f / w:=gG O (by omega);have I:x.f / w<=x.f:=oA _ O
 have hl : -1<=last:=by
  rcases R with ⟨_,h⟩ | ⟨p,_,d,_,h⟩
  ·omega
  ·have:=gG d (show 0<=w by omega);omega
 have hF:Rn bs w prev ⟨pre.length,false⟩=x.f / w/\Hn bs ⟨pre.length,false⟩=⟨(pre++aq (x.f / w-last-1).toNat).length,false⟩:=by
  have Y:nx bs ⟨pre.length,false⟩=((x.f / w-last-1).toNat,⟨(pre++aq (x.f / w-last-1).toNat).length,false⟩):=eR (post:=_) (by rw[k];unfold da;rw[bg]) (by omega);unfold Rn Hn;rw[fD rfl,Y];dsimp only;rw[ae (by omega)];refine⟨?_,rfl⟩;rcases R with ⟨rfl,h⟩ | ⟨p,rfl,d,Sl,h⟩
  ·dsimp only;omega
  ·have Sm:=oA w d;have Sn:=gG d (show 0<=w by omega);have w1:U6 (((x.f / w-last-1).toNat:Nat)+1)=x.f / w-last:=by rw[show((x.f / w-last-1).toNat:Int)+1=x.f / w-last by omega];exact bH _ (by omega) (by omega)
   have w2:U6 p=p:=bH _ d (by omega);dsimp only;rw[w1,w2,show x.f / w-last+p / w=x.f / w by omega];exact bH _ D (by omega)
 obtain⟨B,t⟩:=hF;obtain⟨q,S⟩:=aZ (x.f / w);rw[<-S]at H k D I B t ⊢
 have J:q*w=x.f:=by
  have:=sF x.f w;rw[Sj,<-S,Int.mul_comm]at this;omega
 obtain⟨g,j⟩:=aZ ((q-last-1).toNat:Nat);obtain⟨c,o⟩:=aZ ((x.n-1).toNat:Nat);have E:=hi.mn;have N:=hi.mx;have is:=hi.s;have ia:=hi.a;have iz:=hi.z;rw[<-j]at t;have Z:bE bs ⟨(pre++aq g).length,false⟩=(c,⟨(pre++aq g++aq c).length,false⟩):=by rw[fD rfl];exact eR (post:=_) (by rw[k,j,o];unfold da;simp only[bg];rfl) (by omega)
 have e3:bE bs ⟨(pre++aq g++aq c).length,false⟩=(cZ x.mn,⟨(pre++aq g++aq c++aq (cZ x.mn)).length,false⟩):=by rw[fD rfl];exact eR (post:=_) (by rw[k,j,o];unfold da;simp only[bg];rfl) (fE E)
 have w4:W6 (q*w)=x.f:=by rw[J];exact jf hi.f
 have w6:((c%4611686018427387904:Nat):Int)+1=x.n:=by omega
 unfold Lw;simp only[B,t,Z,e3,mV,w4,w6];by_cases r:x.n=1
 ·rw[ae (by omega)];obtain⟨T,U,V,X⟩:=C r
  have hx:(⟨x.f,x.n,x.mn,x.mn,x.mn,x.mn,x.mn⟩:e8)=x:=by
   cases x;simp only at T U V X ⊢;rw[T,U,V,X]
  rw[hx];unfold da;rw[af r,<-j,<-o];simp[bg]
 ·rw[af (by omega)];obtain⟨e,y⟩:∃p:Nat,p=(x.mx-x.mn).toNat:=⟨_,rfl⟩;obtain⟨u,G⟩:∃p:Nat,p=(x.a-x.mn).toNat:=⟨_,rfl⟩;obtain⟨F,Q⟩:∃p:Nat,p=(x.z-x.mn).toNat:=⟨_,rfl⟩;unfold I6 at E N is ia iz;have e4:bE bs ⟨(pre++aq g++aq c++aq (cZ x.mn)).length,false⟩=(e,⟨(pre++aq g++aq c++aq (cZ x.mn)++aq e).length,false⟩):=by rw[fD rfl];exact eR (post:=_) (by rw[k,j,o,y];unfold da;rw[ae r];simp only[bg];rfl) (by omega)
  have e5:bE bs ⟨(pre++aq g++aq c++aq (cZ x.mn)++aq e).length,false⟩=(cZ x.s,⟨(pre++aq g++aq c++aq (cZ x.mn)++aq e++aq (cZ x.s)).length,false⟩):=by rw[fD rfl];exact eR (post:=_) (by rw[k,j,o,y];unfold da;rw[ae r];simp only[bg];rfl) (fE is)
  have e6:bE bs ⟨(pre++aq g++aq c++aq (cZ x.mn)++aq e++aq (cZ x.s)).length,false⟩=(u,⟨(pre++aq g++aq c++aq (cZ x.mn)++aq e++aq (cZ x.s)++aq u).length,false⟩):=by rw[fD rfl];exact eR (post:=_) (by rw[k,j,o,y,G];unfold da;rw[ae r];simp only[bg];rfl) (by omega)
  have e7:bE bs ⟨(pre++aq g++aq c++aq (cZ x.mn)++aq e++aq (cZ x.s)++aq u).length,false⟩=(F,⟨(pre++aq g++aq c++aq (cZ x.mn)++aq e++aq (cZ x.s)++aq u++aq F).length,false⟩):=by rw[fD rfl];exact eR (post:=post) (by rw[k,j,o,y,G,Q];unfold da;rw[ae r];simp only[bg]) (by omega)
  have v4:W6 (x.mn+(e:Nat))=x.mx:=by rw[show x.mn+(e:Int)=x.mx by omega];exact jf hi.mx
  have v6:W6 (x.mn+(u:Nat))=x.a:=by rw[show x.mn+(u:Int)=x.a by omega];exact jf hi.a
  have v7:W6 (x.mn+(F:Nat))=x.z:=by rw[show x.mn+(F:Int)=x.z by omega];exact jf hi.z
  simp only[e4,e5,e6,e7,mV,v4,v6,v7];unfold da;rw[ae r,<-j,<-o,<-y,<-G,<-Q];simp only[bg]
theorem xk{w:Int}(j:1<=w/\w<=1440):∀(l:List e8) {bs pre post:Bs} {acc:List e8} {lastF last:Int},bs=pre++(eW w last l++post)->bW w lastF l=true->(∀x∈l,IA x)->((acc.getLast?.map e8.f=none/\last = -1)\/∃p,acc.getLast?.map e8.f=some p/\0<=p/\p<=1099511627776/\last=p / w)->(∀x,l.head? = some x->last<x.f / w) →
 kA bs w l.length acc ⟨pre.length,false⟩=(acc++l,⟨(pre++eW w last l).length,false⟩)
 | [],bs,pre,post,acc,lastF,last,h,_,_,_,_=>by simp[kA,eW]
 |x::r,bs,pre,post,acc,lastF,last,h,g,hi,t,q=>by
  unfold bW at g;rw[aM,aM,aM,bK,bK]at g;obtain⟨⟨⟨n,k⟩,u⟩,c⟩:=g;have d:=(dF n).1;have o:=OM j n (hi x eF) k t (q x rfl) (bs:=bs) (pre:=pre) (post:=eW w (x.f / w) r++post) (by rw[h];simp[eW,bg])
  have z:=xk j r (bs:=bs) (pre:=pre++da x (x.f / w-last-1)) (post:=post) (acc:=acc++[x]) (lastF:=x.f) (last:=x.f / w) (by rw[h];simp[eW,bg]) c (λy e=>hi y (dC _ e)) (.inr ⟨x.f,by simp,d.2.2.1,d.2.2.2,rfl⟩) λy e=>by
   cases r with
   |nil=>cases e
   |cons C B=>
    cases e;unfold bW at c;rw[aM,aM,aM,bK,bK]at c;exact CX j.1 k c.1.1.2 c.1.2
  rw[bB,kA,ae (by simp),o];dsimp only;rw[z];simp[eW,bg]
theorem Is{bs pre:Bs}{w:Int}{l:List e8}(q:1<=w/\w<=1440)(g:bs=pre++dJ w l)(h:vG w l=true)(hi:∀x∈l,IA x):∃e,kA bs w (kI bs 64 ⟨pre.length,false⟩).1 [] (kI bs 64 ⟨pre.length,false⟩).2=(l,⟨e,false⟩):=by
 have c:=h;unfold vG at c;rw[aM]at c;have d:=cm c.2;rw[yH (n:=l.length) (post:=eW w (-1) l) (by rw[g];simp[dJ]) (by omega) d]
 have k:=xk q l (bs:=bs) (pre:=pre++aq l.length) (post:=[]) (acc:=[]) (last := -1) (by rw[g];simp[dJ]) c.1 hi (.inl ⟨rfl,rfl⟩) λx j=>by
  cases l with
  |nil=>cases j
  |cons y r=>
   cases j;have:=c.1;unfold bW at this;rw[aM,aM,aM]at this;have o:=(dF this.1.1.1).1.2.2.1;have:=gG o (show 0<=w by omega);omega
 exact⟨_,by rw[k];rfl⟩
def nC(bs:Bs)(k:Nat):Nat×Rr:=match k with
 | 0=>bE bs ⟨2,false⟩
 |k+1=>bE bs (nC bs k).2
def qg(bs:Bs)(k:Nat)(r:Rr):List e8×Rr:=kA bs (wK k) (kI bs 64 r).1 [] (kI bs 64 r).2
def qi(bs:Bs)(r:Rr):List gq×Rr:=l6 bs (kI bs 64 r).1 [] 0 (kI bs 64 r).2
def Qr(bs:Bs):Bool:=decide ((nC bs 0).1<=1073741824/\(nC bs 1).1<=3/\(nC bs 2).1<=1099511627776/\(nC bs 3).1<=1099511627776)
def oe(bs:Bs):Sq×Rr:=if(nC bs 1).1=0 then(⟨((nC bs 0).1:Nat),0,((nC bs 2).1:Nat),((nC bs 2).1:Nat)+((nC bs 3).1:Nat),(qi bs (nC bs 3).2).1,[]⟩,(qi bs (nC bs 3).2).2)
 else(⟨((nC bs 0).1:Nat),((nC bs 1).1:Nat),((nC bs 2).1:Nat),((nC bs 2).1:Nat)+((nC bs 3).1:Nat),[],(qg bs (nC bs 1).1 (nC bs 3).2).1⟩,(qg bs (nC bs 1).1 (nC bs 3).2).2)
theorem Fc(bs:Bs):IQ (oe bs).1:=by
 unfold oe;split
 ·exact⟨λx b=>(yJ bs _ _ _ _ (λa c=>by cases c) x b).2,λx b=>by cases b⟩
 ·exact⟨λx b=>(by cases b),λx b=>AU bs _ _ _ _ (λa c=>by cases c) x b⟩
theorem LB{g:Sq}(h:gL g=true)(hi:IQ g):Qr (bP g)=true/\∃e,oe (bP g)=(g,⟨e,false⟩):=by
 obtain⟨B,C,D,E,F,G,H⟩:=iu h;obtain⟨b,k⟩:=aZ (bP g);have I:=vE h
 have n:nC b 0=(g.i.toNat,⟨([84,75]++aq g.i.toNat).length,false⟩):=by
  show bE b ⟨([84,75]:Bs).length,false⟩=_
  rw[fD rfl];exact eR (post:=_) (by rw[k];unfold bP mE iv;simp only[ef,bg];rfl) (by omega)
 have p:nC b 1=(g.t.toNat,⟨([84,75]++aq g.i.toNat++aq g.t.toNat).length,false⟩):=by
  rw[nC,n,fD rfl];exact eR (post:=_) (by rw[k];unfold bP mE iv;simp only[ef,bg];rfl) (by omega)
 have q:nC b 2=(g.f.toNat,⟨([84,75]++aq g.i.toNat++aq g.t.toNat++aq g.f.toNat).length,false⟩):=by
  rw[nC,p,fD rfl];exact eR (post:=_) (by rw[k];unfold bP mE iv;simp only[ef,bg];rfl) (by omega)
 have r:nC b 3=((g.o-g.f).toNat,⟨([84,75]++aq g.i.toNat++aq g.t.toNat++aq g.f.toNat++aq (g.o-g.f).toNat).length,false⟩):=by
  rw[nC,q,fD rfl];exact eR (post:=iE g) (by rw[k];unfold bP mE iv;simp only[ef,bg,dD]) (by omega)
 have c:b=([84,75]++aq g.i.toNat++aq g.t.toNat++aq g.f.toNat++aq (g.o-g.f).toNat)++iE g:=by rw[k];unfold bP mE iv;simp only[ef,bg,lg]
 rw[<-k];refine⟨by unfold Qr;rw[n,p,q,r];simp only[bK];omega,?_⟩;obtain⟨P,y⟩:=aZ (([84,75]++aq g.i.toNat++aq g.t.toNat++aq g.f.toNat++aq (g.o-g.f).toNat));rw[<-y]at r c;have d:=h;unfold gL at d;rw[aM]at d;unfold oe;rw[n,p,q,r];dsimp only;have v:(g.i.toNat:Int)=g.i:=by omega
 have x:(g.t.toNat:Int)=g.t:=by omega
 have u:(g.f.toNat:Int)=g.f:=by omega
 have w:g.f+((g.o-g.f).toNat:Int)=g.o:=by omega
 rw[v,x,u,w];by_cases m:g.t=0
 ·rw[af m]at d;rw[aM,aM,bK]at d;obtain⟨_,⟨z,j⟩,_⟩:=d;rw[af (by omega)];unfold iE at c;rw[af m]at c;obtain⟨e,s⟩:=ID c j hi.l;refine⟨e,?_⟩;unfold qi;rw[s];obtain⟨i,t,f,o,l,a⟩:=g;simp only at*;subst m;subst z;rfl
 ·rw[ae m]at d;rw[aM,aM,bK]at d;obtain⟨_,⟨A,j⟩,_⟩:=d;rw[ae (by omega)];unfold iE at c;rw[ae m]at c;obtain⟨e,s⟩:=Is (kr _) c j hi.a;refine⟨e,?_⟩;unfold qg;rw[s];obtain⟨i,t,f,o,l,a⟩:=g;simp only at*;subst A;rfl
section
variable {s t u s0:St}{x y b:S}{l:List e8}{bs:Bs}{k:Nat}
theorem mP(d:Nat)(c:1<=k)(e:k<=3):R (d+1) 116 [J k] s=some (J (wK k),s):=by
 rw[Jh];unfold f116;rcases (by omega:k=1\/k=2\/k=3)with rfl | rfl | rfl<;>rfl
theorem vW(d:Nat)(i:1<=k)(j:k<=3){f:Int}(o:0<=f)(p:f<=1099511627776):R (d+2) 114 [J f,J k] s=some (J (f-f%wK k),s):=by
 have h:=mP (s:=s) d i j;have t:=kr k;have c:wK k≠0:=by omega
 have q:=Mo f c;have r:=Mn f (show 0<wK k by omega)
 have n:ah .rem (J f) (J (wK k))=some (J (f%wK k)):=by
  obtain⟨a,l⟩:∃a:Nat,(a:Int)=f:=⟨f.toNat,by omega⟩;obtain⟨b,m⟩:∃b:Nat,(b:Int)=wK k:=⟨(wK k).toNat,by omega⟩;rw[<-l,<-m,jx .i64 a b (by omega)];rfl
 have w1:IntKind.i64.wrap (f-f%wK k)=f-f%wK k:=aw _ (by omega) (by omega);rw[Jf];unfold f114;have e:¬f<0:=by omega
 have g:¬1099511627776<f:=by omega
 generalize R (d+1)=u at*;simp[h,c,e,g,n,w1]
theorem Hy(d:Nat)(Q:s.wf)(x:e8):∃t,R (d+1) 151 [AA x] s=some (B (jl x),t)/\Gr s t:=by
 obtain⟨s1,y⟩:=aZ (s.push (.K true (cA x)));have b:aE s (b6 (AA x))=some (Z (.ptr s.size 0),s1):=by rw[y];rfl
 have I:Gr s s1:=by rw[y];exact Gr.push Q _
 have w:s1.get s.size=some (.K true (cA x)):=by rw[y];exact St.ec
 have i:aa (Z (.ptr s.size 0)) s1.get=some (J x.f):=ag w rfl;have j:aa (Z (.ptr s.size 1)) s1.get=some (J x.n):=ag w rfl;have k:aa (Z (.ptr s.size 2)) s1.get=some (J x.s):=ag w rfl;have l:aa (Z (.ptr s.size 3)) s1.get=some (J x.mn):=ag w rfl;have m:aa (Z (.ptr s.size 4)) s1.get=some (J x.mx):=ag w rfl;have o:aa (Z (.ptr s.size 5)) s1.get=some (J x.a):=ag w rfl;have p:aa (Z (.ptr s.size 6)) s1.get=some (J x.z):=ag w rfl;refine⟨s1,?_,I⟩;rw[Jz];unfold f151;by_cases h:(1<=x.n/\x.n<=1099511627776/\0<=x.f/\x.f<=1099511627776)/\(x.mn<=x.a/\x.mn<=x.z/\x.mn<=x.mx/\x.a<=x.mx/\x.z<=x.mx)
 ·obtain⟨H,L,M,N,O,P⟩:=h;have c:¬x.n<1:=by omega
  have g:¬1099511627776<x.n:=by omega
  have q:¬x.f<0:=by omega
  have r:¬1099511627776<x.f:=by omega
  have u:¬x.a<x.mn:=by omega
  have v:¬x.z<x.mn:=by omega
  have A:¬x.mx<x.mn:=by omega
  have C:¬x.mx<x.a:=by omega
  have E:¬x.mx<x.z:=by omega
  by_cases F:1<x.n
  ·have D:jl x=true:=by
    unfold jl;rw[aK H,ae (by omega),aK ⟨L,M,N,O,P⟩];rfl
   rw[D];simp[b,i,j,k,l,m,o,p,c,g,q,r,u,v,A,C,E,F,bD]
  ·have D:jl x=(decide (x.s=x.mn)&&decide (x.mn=x.mx)):=by
    unfold jl;rw[aK H,af (by omega),dX,<-p6];apply decide_eq_decide.2;omega
   rw[D];by_cases G:x.s=x.mn
   ·simp[b,i,j,k,l,m,o,p,c,g,q,r,u,v,A,C,E,F,G,bD]
   ·simp[b,i,j,k,l,m,o,p,c,g,q,r,u,v,A,C,E,F,G,bD]
 ·have D:jl x=false:=gE.2 λe=>h ⟨(dF e).1,(dF e).2.2⟩
  rw[D];by_cases c:x.n<1
  ·simp[b,i,j,k,l,m,o,p,c,bD]
  by_cases g:1099511627776<x.n
  ·simp[b,i,j,k,l,m,o,p,c,g,bD]
  by_cases q:x.f<0
  ·simp[b,i,j,k,l,m,o,p,c,g,q,bD]
  by_cases r:1099511627776<x.f
  ·simp[b,i,j,k,l,m,o,p,c,g,q,r,bD]
  by_cases u:x.a<x.mn
  ·simp[b,i,j,k,l,m,o,p,c,g,q,r,u,bD]
  by_cases v:x.z<x.mn
  ·simp[b,i,j,k,l,m,o,p,c,g,q,r,u,v,bD]
  by_cases A:x.mx<x.mn
  ·simp[b,i,j,k,l,m,o,p,c,g,q,r,u,v,A,bD]
  by_cases C:x.mx<x.a
  ·simp[b,i,j,k,l,m,o,p,c,g,q,r,u,v,A,C,bD]
  have E:x.mx<x.z:=by omega
  simp[b,i,j,k,l,m,o,p,c,g,q,r,u,v,A,C,E,bD]
theorem q3(d:Nat){n:Nat}(h:n<2 ^ 64):R (d+1) 192 [J6 (n:Nat)] s=some (J (fc n),s):=by
 rw[JV];unfold f192;have e:ah .rem (J6 (n:Nat)) (J6 2)=some (J6 ((n%2:Nat))):=jx .u64 n 2 (by decide);have k:ah .quo (J6 (n:Nat)) (J6 2)=some (J6 ((n / 2:Nat))):=qW .u64 n 2 (by decide) (wrap64 _ (by omega));have o:az .i64 (J6 ((n / 2:Nat):Int))=some (J ((n / 2:Nat):Int)):=by rw[aY,fJ _ (by omega)]
 have r:gH .neg (J ((n / 2:Nat):Int))=some (J (-((n / 2:Nat):Int))):=by
  have g:IntKind.i64.wrap (-((n / 2:Nat):Int)) = -((n / 2:Nat):Int):=aw _ (by omega) (by omega);simp only[gH]
  first | rw[g] | (rw[Int.zero_sub,g]) | (simp[g])
 have t:ah .sub (J (-((n / 2:Nat):Int))) (J 1)=some (J (-((n / 2:Nat):Int)-1)):=by rw[iR,aw _ (by omega) (by omega)]
 by_cases q:n%2=1
 ·have j:fc n = -((n / 2:Nat):Int)-1:=by unfold fc;rw[af q]
  rw[j];have c:¬((n%2:Nat):Int)=0:=by omega
  generalize -((n / 2:Nat):Int)-1=w at*;generalize -((n / 2:Nat):Int)=u at*;generalize((n / 2:Nat):Int)=a,((n%2:Nat):Int)=b at*;simp[e,c,k,o,r,t]
 ·have j:fc n=((n / 2:Nat):Int):=by unfold fc;rw[ae q]
  rw[j];have c:((n%2:Nat):Int)=0:=by omega
  rw[c]at e;generalize((n / 2:Nat):Int)=a at*;simp[e,k,o]
end
section
variable {s t u s0:St}{x y b:S}{l:List e8}{bs:Bs}{k:Nat}
theorem qX(d:Nat)(Sv:s.wf)(h1:1<=k)(h3:k<=3)(h:RA s x l)(E:∀c,own x=some c->c<s.size)(hl:l.length<=8000):∃t,R (d+3) 113 [Z x,J k] s=some (B (bW (wK k) (-1) l),t)/\Gr s t:=by
 have I:=h.lens;have hw:=kr k
 obtain⟨j,Sw,lp,hj,g⟩:=aL (f:=lz (R (d+2)) 8192)
  (λq v u=>∃(i:Nat) (last:Int),q+i=l.length/\v=[Z x,J k,J i]/\Gr s u/\bW (wK k) last (l.drop i)=bW (wK k) (-1) l/\((i=0/\last = -1)\/∃j w,i=j+1/\l[j]? = some w/\last=w.f))
  (λj u=>((j = .exit 0 []/\bW (wK k) (-1) l=true)\/(j = .ret (B false)/\bW (wK k) (-1) l=false))/\Gr s u) (by
  rintro q v u ⟨i,last,hq,rfl,g,o,D⟩;by_cases hk:i<l.length
  ·obtain⟨a,ha⟩:=aZ (l[i]);have r:l[i]? = some a:=by rw[aU hk,ha]
   have Sk:l.drop i=a::l.drop (i+1):=by rw[cU hk,ha]
   rw[Sk,show bW (wK k) last (a::l.drop (i+1))=(jl a&&decide (a.f%wK k=0)&&decide (last<a.f)&&bW (wK k) a.f (l.drop (i+1))) from rfl]at o;obtain⟨c,p,F,S,_⟩:=RA.Gf (h.gr E g) (n:=(i:Int)) rfl r;obtain⟨N,y,g3⟩:=Hy (d+1) g.wf a;have z:=g.trans g3;obtain⟨c',p',e,_,V⟩:=RA.Gf (h.gr E z) (n:=(i:Int)) rfl r;rw[F]at e
   injection e with e
   injection e with e
   injection e with e
   injection e with hc hp
   subst hc;subst hp;have G:(i:Int)<(l.length:Int):=by omega
   have w1:IntKind.i64.wrap ((i:Int)+1)=((i+1:Nat):Int):=by rw[aw _ (by omega) (by omega)];omega
   cases Sn:jl a with
   |false=>
    right;rw[Sn]at y o;refine⟨.ret (B false),N,?_,(λv h=>by cases h),.inr ⟨rfl,by rw[<-o];rfl⟩,z⟩;unfold lz;generalize R (d+2)=T,(i:Int)=X,(l.length:Int)=U at*;simp[I,G,F,S,y,wq,bD]
   |true=>
    rw[Sn]at y o;obtain⟨⟨_,_,Su,f1⟩,_⟩:=dF Sn;have O:=vW (s:=N) d h1 h3 Su f1;by_cases C:a.f%wK k=0
    rotate_left
    ·right;have H:¬a.f-a.f%wK k=a.f:=(by omega);refine⟨.ret (B false),N,?_,(λv h=>by cases h),.inr ⟨rfl,by rw[<-o];simp[C]⟩,z⟩;unfold lz;generalize R (d+2)=T,a.f-a.f%wK k=FF,(i:Int)=X,(k:Int)=KK,(l.length:Int)=U at*;simp[I,G,F,S,y,V,O,H,wq,bD]
    have H:a.f-a.f%wK k=a.f:=(by omega);rw[H]at O;rcases D with ⟨rfl,rfl⟩ | ⟨j,w,rfl,Sl,rfl⟩
    ·left;have Ss:((0:Nat):Int)=0:=rfl;rw[Ss]at F G;have Sp:IntKind.i64.wrap 1=((0+1:Nat):Int):=rfl;refine⟨[Z x,J k,J ((0+1:Nat):Int)],N,q-1,?_,by omega,0+1,a.f,by omega,rfl,z,?_,.inr ⟨0,a,rfl,r,rfl⟩⟩
     ·unfold lz;generalize R (d+2)=T,((0+1:Nat):Int)=K1,(k:Int)=KK,(l.length:Int)=U at*;simp[I,G,F,S,y,V,O,Sp,wq,bD]
     ·rw[<-o];have:(-1:Int)<a.f:=(by omega);simp[C,this]
    ·obtain⟨cj,pj,ij,_,lj⟩:=RA.Gf (h.gr E z) (n:=((j:Nat):Int)) rfl Sl;have cp:(0:Int)<((j+1:Nat):Int):=(by omega);have wj:IntKind.i64.wrap (((j+1:Nat):Int)-1)=((j:Nat):Int):=(by rw[aw _ (by omega) (by omega)];omega);by_cases Q:w.f<a.f
     ·left;have Y:¬a.f<=w.f:=(by omega);refine⟨[Z x,J k,J ((j+1+1:Nat):Int)],N,q-1,?_,by omega,j+1+1,a.f,by omega,rfl,z,?_,.inr ⟨j+1,a,rfl,r,rfl⟩⟩
      ·unfold lz;generalize R (d+2)=T,((j+1+1:Nat):Int)=K2,((j+1:Nat):Int)=K1,((j:Nat):Int)=X,(k:Int)=KK,(l.length:Int)=U at*;simp[I,G,F,S,y,V,O,cp,wj,ij,lj,Y,w1,wq,bD]
      ·rw[<-o];simp[C,Q]
     ·right;have Y:a.f<=w.f:=(by omega);refine⟨.ret (B false),N,?_,(λv h=>by cases h),.inr ⟨rfl,by rw[<-o];simp[Q]⟩,z⟩;unfold lz;generalize R (d+2)=T,((j+1:Nat):Int)=K1,((j:Nat):Int)=X,(k:Int)=KK,(l.length:Int)=U at*;simp[I,G,F,S,y,V,O,cp,wj,ij,lj,Y,wq,bD]
  ·right;have Sm:i=l.length:=by omega
   subst Sm;rw[e7]at o;refine⟨.exit 0 [],u,?_,(λv h=>by cases h),.inl ⟨rfl,o.symm⟩,g⟩;unfold lz;generalize(k:Int)=KK at*;simp[I])
  8192 l.length _ s ⟨0,-1,by omega,rfl,Gr.refl Sv,by simp,.inl ⟨rfl,rfl⟩⟩ (by omega)
 refine⟨Sw,?_,g⟩;rw[Je];unfold f113;have Sj:((0:Nat):Int)=0:=rfl;rw[Sj]at lp;have H:¬(k:Int)<1:=by omega
 have Sr:¬(3:Int)<(k:Int):=by omega
 generalize R (d+2)=T,(k:Int)=KK at*;rcases hj with ⟨rfl,o⟩ | ⟨rfl,o⟩
 ·rw[o];simp[H,Sr,lp]
 ·rw[o];simp[H,Sr,lp]
end
section
variable {s t u s0:St}{x y b lx bx:S}{l acc:List gq}{bs:Bs}{p:Nat}{r:Rr}{g:Sg}
theorem om(d:Nat){n:Int}(h:I6 n):R (d+1) 115 [J n] s=some (J6 (cZ n:Nat),s):=by
 rw[Jg];unfold f115;obtain⟨j,k⟩:=h;by_cases f:0<=n
 ·obtain⟨m,c⟩:∃m:Nat,(m:Int)=n:=⟨n.toNat,by omega⟩;subst c;have a:az .u64 (J (m:Int))=some (J6 (m:Int)):=by rw[aY,wrap64 _ (by omega)]
  have b:IntKind.u64.wrap ((m:Int)*2)=((cZ m:Nat):Int):=by
   have:cZ m=m*2:=by unfold cZ;rw[ae (by omega)];omega
   rw[this,show(m:Int)*2=((m*2:Nat):Int) by omega,wrap64 _ (by omega)]
  generalize((cZ m:Nat):Int)=z at*;have e:(0:Int)<=(m:Int):=f;simp[e,a,b]
 ·obtain⟨m,c⟩:∃m:Nat,(m:Int) = -n-1:=⟨(-n-1).toNat,by omega⟩;have w1:IntKind.i64.wrap (n+1)=n+1:=aw _ (by omega) (by omega)
  have i:gH .neg (J (n+1))=some (J (m:Int)):=by
   show some (J (IntKind.i64.wrap (0-(n+1))))=_
   rw[show 0-(n+1)=(m:Int) by omega,fJ _ (by omega)]
  have a:az .u64 (J (m:Int))=some (J6 (m:Int)):=by rw[aY,wrap64 _ (by omega)]
  have b:IntKind.u64.wrap ((m:Int)*2)=((m*2:Nat):Int):=by rw[show(m:Int)*2=((m*2:Nat):Int) by omega,wrap64 _ (by omega)]
  have g:IntKind.u64.wrap (((m*2:Nat):Int)+1)=((cZ n:Nat):Int):=by
   have:cZ n=m*2+1:=by unfold cZ;rw[af (by omega)];omega
   rw[this,show((m*2:Nat):Int)+1=((m*2+1:Nat):Int) by omega,wrap64 _ (by omega)]
  clear c;generalize((cZ n:Nat):Int)=z,((m*2:Nat):Int)=l at*;simp[f,w1,i,a,b,g]
theorem we:∀(l:List gq) (last:Int),-1<=last->cx last l=true->∀(k:Nat) (a:gq),l[k]? = some a->(0:Int)<=a.t/\a.t<=1099511627776/\(∀b:gq,0<k->l[k-1]? = some b->b.t<a.t)
 | [],_,_,_,k,a,h=>by simp at h
 |x::r,last,n,d,k,a,h=>by
  simp only[cx,aM,bK]at d;cases k with
  |zero=>
   simp at h;subst h;exact⟨by omega,d.1.2,λb c=>by omega⟩
  |succ k=>
   simp at h;obtain⟨e,g,j⟩:=we r x.t (by omega) d.2 k a h;refine⟨e,g,λb _ c => ?_⟩;rw[jC]at c;cases k with
   |zero=>
    simp at c;subst c;exact(jq d.2 a (bS h)).1
   |succ k=>exact j b (by omega) (by simpa using c)
theorem Cj(d:Nat)(h:nJ s x l)(hl:l.length<=8000)(U:cx (-1) l=true):R (d+1) 112 [Z x] s=some (B true,s):=by
 have y:=h.lens;have e:=we l (-1) (by omega) U
 obtain⟨j,Sj,I,rfl,rfl⟩:=aL (f:=iI (R d) 8192)
  (λq v u=>∃(k:Nat),q+k=l.length/\v=[Z x,J k]/\u=s)
  (λj u=>j = .exit 0 []/\u=s) (by
  rintro q v u ⟨k,hq,rfl,rfl⟩;by_cases T:k<l.length
  ·left;obtain⟨a,G⟩:∃a,l[k]? = some a:=⟨_,aU T⟩;obtain⟨h1,h2,S⟩:=e k a G;obtain⟨c,p,r,_,lt,_⟩:=nJ.CK h (n:=(k:Int)) rfl G;have g:(k:Int)<(l.length:Int):=by omega
   have E:¬a.t<0:=by omega
   have F:¬1099511627776<a.t:=by omega
   have w1:IntKind.i64.wrap ((k:Int)+1)=((k+1:Nat):Int):=by rw[aw _ (by omega) (by omega)];omega
   refine⟨[Z x,J ((k+1:Nat):Int)],u,q-1,?_,by omega,k+1,by omega,rfl,rfl⟩;unfold iI;cases k with
   |zero=>
    have k0:((0:Nat):Int)=0:=rfl;rw[k0]at r g w1;generalize((0+1:Nat):Int)=K1,(l.length:Int)=D at*;have C:IntKind.i64.wrap 1=K1:=by simpa using w1
    simp[y,g,r,lt,E,F,bD,C]
   |succ k=>
    obtain⟨b,H⟩:∃b,l[k]? = some b:=⟨_,aU (by omega)⟩;have h4:=S b (by omega) (by simpa using H);obtain⟨c',p',w,_,z,_⟩:=nJ.CK h (n:=(k:Int)) rfl H;have V:IntKind.i64.wrap (((k+1:Nat):Int)-1)=(k:Int):=(by rw[aw _ (by omega) (by omega)];omega);have N:0<((k+1:Nat):Int):=(by omega);have O:¬a.t<=b.t:=(by omega);generalize((k+1+1:Nat):Int)=Y,((k+1:Nat):Int)=K1,(k:Int)=X,(l.length:Int)=D at*;simp[y,g,r,lt,E,F,N,V,w,z,O,bD,w1]
  ·right;have o:k=l.length:=by omega
   subst o;refine⟨.exit 0 [],u,?_,(λv h=>by cases h),rfl,rfl⟩;unfold iI;generalize(l.length:Int)=D at*;simp[y])
  8192 l.length _ s ⟨0,by omega,rfl,rfl⟩ (by omega)
 rw[A7];unfold f112;have Q:((0:Nat):Int)=0:=rfl;rw[Q]at I;simp[I]
theorem DC(d:Nat){k:Nat}{step:Int}{acc z:Bs}(SA:u.wf)(h:nJ u x l)(Ss:∀c,own x=some c->c<u.size)(hr:qb l k step z)(H:k<l.length)(hl:l.length<=64)(ht:∀a∈l,I6 a.t/\0<=a.t/\I6 a.v)(ha:acc.length<=22*k+11) :
 ∃u' q g o,rS (R (d+1)) 8192 [Z x,Z (.str acc),J step,J k] u=some (.normal [Z x,Z (.str g),J q,J ((k+1:Nat):Int)],u') ∧
  Gr u u'/\qb l (k+1) q o/\g++o=acc++z/\g.length<=22*(k+1)+11:=by
 have U:(k:Int)<(l.length:Int):=by omega
 have Sz:=h.lens;have w1:IntKind.i64.wrap ((k:Int)+1)=((k+1:Nat):Int):=by rw[aw _ (by omega) (by omega)];omega
 obtain⟨a,F⟩:=aZ (l[k]);have y:l[k]? = some a:=by rw[aU H,F]
 obtain⟨D,SB,E⟩:=ht a (bS y);obtain⟨c,p,N,_,lt,lv⟩:=nJ.CK h (n:=(k:Int)) rfl y;have Sj:=Ss c (mM N);have w:∀n,(aq n).length<=11:=aX;rcases hr with ⟨rfl,rfl,⟨rfl,_⟩ | ⟨e,r,rfl,rfl⟩⟩ | ⟨j,was,rfl,hj,SC,rfl⟩
 ·simp at H
 ·have:e=a:=by simpa using y
  subst this
  have V:az .u64 (J e.t)=some (J6 (e.t.toNat:Nat)):=by
   have h1:e.t=(e.t.toNat:Int):=by omega
   have h2:=D.2;rw[aY];have:=wrap64 e.t.toNat (by omega);rw[<-h1]at this;rw[this]
   congr 3
  obtain⟨S,X,B⟩:=cn d SA e.t.toNat (by have:=D.2;omega);have s3:=b7 acc (aq e.t.toNat) (by have:=w e.t.toNat;omega);have Sx:aa (Z (.ptr c (p+1))) S.get=some (J e.v):=by rw[kS (B.2.2 c Sj)];exact lv
  have Y:=om (s:=S) d E;obtain⟨u6,e6,g6⟩:=cn d B.wf (cZ e.v) (fE E);have s6:=b7 (acc++aq e.t.toNat) (aq (cZ e.v)) (by have:=w e.t.toNat;have:=w (cZ e.v);rw[aI];omega);refine⟨u6,0,(acc++aq e.t.toNat)++aq (cZ e.v),gN 0 e r,?_,B.trans g6,.inr ⟨0,e,rfl,rfl,by unfold I6;omega,rfl⟩,by simp[hU,bg],by have:=w e.t.toNat;have:=w (cZ e.v);rw[aI,aI];omega⟩;unfold rS;have k0:((0:Nat):Int)=0:=rfl;rw[k0]at N U;have w1:IntKind.i64.wrap 1=((0+1:Nat):Int):=rfl;generalize R (d+1)=rr,acc++aq e.t.toNat=C at*;generalize C++aq (cZ e.v)=A2,aq e.t.toNat=V1 at*;generalize cZ e.v=zv at*;generalize aq zv=V2,(zv:Int)=zz,(e.t.toNat:Int)=tn,((0+1:Nat):Int)=K1,((e::r).length:Int)=LL at*;simp[Sz,U,N,lt,V,X,s3,lv,Sx,Y,e6,s6,w1]
 ·have Sy:=ht was (bS hj);have V:¬((j+1:Nat):Int)=0:=by omega
  have w2:IntKind.i64.wrap (((j+1:Nat):Int)-1)=(j:Int):=by rw[aw _ (by omega) (by omega)];omega
  obtain⟨c',p',Su,_,Sv,Sw⟩:=nJ.CK h (n:=(j:Int)) rfl hj;have Y:=om (s:=u) d (ei (W6 (a.t-was.t)-step));obtain⟨S,X,B⟩:=cn d SA (cZ (W6 (W6 (a.t-was.t)-step))) (fE (ei _));have s3:=b7 acc (aq (cZ (W6 (W6 (a.t-was.t)-step)))) (by have:=w (cZ (W6 (W6 (a.t-was.t)-step)));omega);have e8:=om (s:=S) d (ei (a.v-was.v));obtain⟨u6,e6,g6⟩:=cn d B.wf (cZ (W6 (a.v-was.v))) (fE (ei _));have s6:=b7 (acc++aq (cZ (W6 (W6 (a.t-was.t)-step)))) (aq (cZ (W6 (a.v-was.v)))) (by have:=w (cZ (W6 (W6 (a.t-was.t)-step)));have:=w (cZ (W6 (a.v-was.v)));rw[aI];omega);have G:l.drop (j+1)=a::l.drop (j+1+1):=by rw[cU H,F]
  have hv:∀n:Int,∃m,az .u64 (J n)=some (J6 m)/\∃k:Int,m=n+18446744073709551616*k:=λn=>by
   refine⟨_,aY _ _ _,?_⟩;unfold IntKind.wrap;simp[IntKind.signed,IntKind.bits];exact⟨-(n / 18446744073709551616),by omega⟩
  obtain⟨O,Sm,k1,Sk⟩:=hv a.v;obtain⟨Q,Sn,k2,Sl⟩:=hv was.v
  have I:∃m3,ah .sub (J6 O) (J6 Q)=some (J6 m3)/\az .i64 (J6 m3)=some (J (W6 (a.v-was.v))):=by
   refine⟨_,iR _ _ _,?_⟩;rw[aY]
   have:∃k:Int,IntKind.u64.wrap (O-Q)=(a.v-was.v)+18446744073709551616*k:=by
    unfold IntKind.wrap;simp[IntKind.signed,IntKind.bits];exact⟨k1-k2-(O-Q) / 18446744073709551616,by omega⟩
   obtain⟨k,H⟩:=this;show some (J (W6 (IntKind.u64.wrap (O-Q))))=_
   rw[Me H]
  obtain⟨m3,Sp,Sr⟩:=I;refine⟨u6,W6 (a.t-was.t),(acc++aq (cZ (W6 (W6 (a.t-was.t)-step))))++aq (cZ (W6 (a.v-was.v))),gN (W6 (a.t-was.t)) a (l.drop (j+1+1)),?_,B.trans g6,.inr ⟨j+1,a,rfl,y,ei _,rfl⟩,?_,?_⟩
  ·unfold rS;have q1:ah .sub (J a.t) (J was.t)=some (J (W6 (a.t-was.t))):=by rw[iR]
   have q2:ah .sub (J (W6 (a.t-was.t))) (J step)=some (J (W6 (W6 (a.t-was.t)-step))):=by rw[iR]
   clear G hv Sk Sl;generalize R (d+1)=rr,W6 (W6 (a.t-was.t)-step)=C at*;generalize W6 (a.t-was.t)=A2,W6 (a.v-was.v)=T,acc++aq (cZ C)=B1 at*;generalize B1++aq (cZ T)=B2,aq (cZ C)=V1 at*;generalize aq (cZ T)=V3,((cZ C:Nat):Int)=z1,((cZ T:Nat):Int)=z3,((j+1+1:Nat):Int)=K2,((j+1:Nat):Int)=K1,(j:Int)=K0,(l.length:Int)=LL at*;simp[Sz,U,V,N,lt,w2,Su,Sv,q1,lv,Sm,Sw,Sn,Sp,Sr,q2,Y,X,s3,e8,e6,s6,w1]
  ·rw[G];simp[gN,bg]
  ·have:=w (cZ (W6 (W6 (a.t-was.t)-step)));have:=w (cZ (W6 (a.v-was.v)));rw[aI,aI];omega
end
section
variable {s t u s0:St}{x y b:S}{l:List e8}{bs acc:Bs}{k:Nat}
theorem B4(d:Nat){i:Nat}{last lastF:Int}(h1:1<=k)(h3:k<=3)(Tj:u.wf)(h:RA u x l)(S4:∀c,own x=some c->c<u.size)(hk:i<l.length)(hl:l.length<=64)(hi:∀a∈l,IA a)
 (S1:bW (wK k) lastF (l.drop i)=true) (q:(i=0/\last = -1)\/∃j w,i=j+1/\l[j]? = some w/\last=w.f / wK k/\0<=w.f/\w.f<=1099511627776) (S3:∀a,l[i]? = some a->last<a.f / wK k) (Ta:acc.length<=77*i+11) :
 ∃u' a,l[i]? = some a/\nQ (R (d+2)) 8192 [Z x,J k,Z (.str acc),J i] u=some (.normal [Z x,J k,Z (.str (acc++da a (a.f / wK k-last-1))),J ((i+1:Nat):Int)],u') ∧
  Gr u u'/\bW (wK k) a.f (l.drop (i+1))=true/\jl a=true/\a.f%wK k=0:=by
 have SP:(i:Int)<(l.length:Int):=by omega
 have S6:=h.lens;have w1:IntKind.i64.wrap ((i:Int)+1)=((i+1:Nat):Int):=by rw[aw _ (by omega) (by omega)];omega
 obtain⟨a,S0⟩:=aZ (l[i]);have N:l[i]? = some a:=by rw[aU hk,S0]
 have I:=hi a (bS N);have hw:=kr k;rw[cU hk,<-S0,show bW (wK k) lastF (a::l.drop (i+1))=(jl a&&decide (a.f%wK k=0)&&decide (lastF<a.f)&&bW (wK k) a.f (l.drop (i+1))) from rfl,aM,aM,aM,bK,bK]at S1;obtain⟨⟨⟨S9,Tb⟩,Tf⟩,S2⟩:=S1;obtain⟨⟨n1,n2,S8,f1⟩,Tc,Ti,o2,o3,o4,o5⟩:=dF S9;have Tg:0<=a.f / wK k:=gG S8 (by omega);have Th:a.f / wK k<=a.f:=oA _ S8;have Te:=S3 a N;obtain⟨cc,p,ix,ld,_⟩:=RA.Gf h (n:=(i:Int)) rfl N;obtain⟨u1,u2,e1,e2,g2,b2,z2⟩:=IG Tj a;have e3:=mP (s:=u2) (d+1) h1 h3;have q1:=oV d hw S8 f1;obtain⟨e,t⟩:∃P,P=(a.f / wK k-last-1).toNat:=⟨_,rfl⟩;obtain⟨g,E⟩:∃P,P=(a.n-1).toNat:=⟨_,rfl⟩;obtain⟨P3,y⟩:∃P,P=cZ a.mn:=⟨_,rfl⟩;obtain⟨Q,hQ⟩:=aZ (u.size);rw[<-hQ]at e1 e2 b2 z2;have C:=I.mn;have L1:=aX e;have L2:=aX g;have L3:=aX P3;have s3:ah .sub (J a.n) (J 1)=some (J (a.n-1)):=tG (by omega) (by omega);have v3:=gQ (a:=a.n-1) (by omega) (by omega);rw[<-E]at v3
 have v1:=gQ (a:=a.f / wK k-last-1) (by rcases q with ⟨_,h⟩ | ⟨j,w,_,_,h,_⟩<;>omega) (by
  rcases q with ⟨_,h⟩ | ⟨j,w,_,_,h,o,_⟩
  ·omega
  ·have:=gG o (show 0<=wK k by omega);omega)
 rw[<-t]at v1
 have SZ:e<2 ^ 64:=by
  rw[t];rcases q with ⟨_,h⟩ | ⟨j,w,_,_,h,o,_⟩
  ·omega
  ·have:=gG o (show 0<=wK k by omega);omega
 obtain⟨u3,e4,g3⟩:=cn (d+1) g2.wf e SZ;obtain⟨u4,e5,g4⟩:=cn (d+1) g3.wf g (by omega);have e6:=om (s:=u4) (d+1) C;rw[<-y]at e6;obtain⟨u5,e7,g5⟩:=cn (d+1) g4.wf P3 (by rw[y];exact fE C);have b3:=g3.get b2 g2.wf;have b4:=g4.get b3 g3.wf;have b5:=g5.get b4 g4.wf;have V:aa (Z (.ptr Q 0)) u2.get=some (J a.f):=ag b2 rfl;have Y:aa (Z (.ptr Q 1)) u2.get=some (J a.n):=ag b2 rfl;have Sk:aa (Z (.ptr Q 1)) u3.get=some (J a.n):=ag b3 rfl;have X:aa (Z (.ptr Q 3)) u2.get=some (J a.mn):=ag b2 rfl;have Sj:aa (Z (.ptr Q 3)) u3.get=some (J a.mn):=ag b3 rfl;have Sl:aa (Z (.ptr Q 3)) u4.get=some (J a.mn):=ag b4 rfl;have Sm:aa (Z (.ptr Q 1)) u5.get=some (J a.n):=ag b5 rfl;have t1:=b7 acc (aq e) (by omega);have t2:=b7 (acc++aq e) (aq g) (by rw[aI];omega);have t3:=b7 (acc++aq e++aq g) (aq P3) (by rw[aI,aI];omega);have SY:=((g2.trans g3).trans g4).trans g5;by_cases hn:1<a.n
 ·obtain⟨r,S⟩:∃P,P=(a.mx-a.mn).toNat:=⟨_,rfl⟩;obtain⟨D,G⟩:∃P,P=cZ a.s:=⟨_,rfl⟩;obtain⟨F,T⟩:∃P,P=(a.a-a.mn).toNat:=⟨_,rfl⟩;obtain⟨P7,U⟩:∃P,P=(a.z-a.mn).toNat:=⟨_,rfl⟩;have S5:=I.mx;have ia:=I.a;have iz:=I.z;have is:=I.s;have d4:=oU o3 S5 C;have d6:=oU Ti ia C;have d7:=oU o2 iz C;rw[<-S]at d4;rw[<-T]at d6;rw[<-U]at d7;have h4:r<2 ^ 64:=by unfold I6 at S5 C;omega
  have h6:F<2 ^ 64:=by unfold I6 at ia C;omega
  have h7:P7<2 ^ 64:=by unfold I6 at iz C;omega
  have L4:=aX r;have L5:=aX D;have L6:=aX F;have L7:=aX P7;obtain⟨u6,e8,g6⟩:=cn (d+1) g5.wf r h4;have e9:=om (s:=u6) (d+1) is;rw[<-G]at e9;obtain⟨u7,SV,g7⟩:=cn (d+1) g6.wf D (by rw[G];exact fE is);obtain⟨u8,SW,g8⟩:=cn (d+1) g7.wf F h6;obtain⟨u9,SX,g9⟩:=cn (d+1) g8.wf P7 h7;have b6:=g6.get b5 g5.wf;have SO:=g7.get b6 g6.wf;have b8:=g8.get SO g7.wf;have Sn:aa (Z (.ptr Q 2)) u5.get=some (J a.s):=ag b5 rfl;have Sp:aa (Z (.ptr Q 3)) u5.get=some (J a.mn):=ag b5 rfl;have Sr:aa (Z (.ptr Q 4)) u5.get=some (J a.mx):=ag b5 rfl;have Ss:aa (Z (.ptr Q 5)) u5.get=some (J a.a):=ag b5 rfl;have Su:aa (Z (.ptr Q 6)) u5.get=some (J a.z):=ag b5 rfl;have Sv:aa (Z (.ptr Q 2)) u6.get=some (J a.s):=ag b6 rfl;have Sw:aa (Z (.ptr Q 3)) u6.get=some (J a.mn):=ag b6 rfl;have Sx:aa (Z (.ptr Q 4)) u6.get=some (J a.mx):=ag b6 rfl;have Sy:aa (Z (.ptr Q 5)) u6.get=some (J a.a):=ag b6 rfl;have Sz:aa (Z (.ptr Q 6)) u6.get=some (J a.z):=ag b6 rfl;have SA:aa (Z (.ptr Q 2)) u7.get=some (J a.s):=ag SO rfl;have SB:aa (Z (.ptr Q 3)) u7.get=some (J a.mn):=ag SO rfl;have SC:aa (Z (.ptr Q 4)) u7.get=some (J a.mx):=ag SO rfl;have SD:aa (Z (.ptr Q 5)) u7.get=some (J a.a):=ag SO rfl;have SE:aa (Z (.ptr Q 6)) u7.get=some (J a.z):=ag SO rfl;have SF:aa (Z (.ptr Q 2)) u8.get=some (J a.s):=ag b8 rfl;have SG:aa (Z (.ptr Q 3)) u8.get=some (J a.mn):=ag b8 rfl;have SH:aa (Z (.ptr Q 4)) u8.get=some (J a.mx):=ag b8 rfl;have SI:aa (Z (.ptr Q 5)) u8.get=some (J a.a):=ag b8 rfl;have SJ:aa (Z (.ptr Q 6)) u8.get=some (J a.z):=ag b8 rfl;have Td:=b7 (acc++aq e++aq g++aq P3) (aq r) (by simp only[aI];omega);have t5:=b7 (acc++aq e++aq g++aq P3++aq r) (aq D) (by simp only[aI];omega);have t6:=b7 (acc++aq e++aq g++aq P3++aq r++aq D) (aq F) (by simp only[aI];omega);have t7:=b7 (acc++aq e++aq g++aq P3++aq r++aq D++aq F) (aq P7) (by simp only[aI];omega);have SQ:az .u64 (J a.mx)=some (J6 (IntKind.u64.wrap a.mx)):=by rw[aY]
  have SU:az .u64 (J a.mn)=some (J6 (IntKind.u64.wrap a.mn)):=by rw[aY]
  have SR:az .u64 (J a.a)=some (J6 (IntKind.u64.wrap a.a)):=by rw[aY]
  have SS:az .u64 (J a.z)=some (J6 (IntKind.u64.wrap a.z)):=by rw[aY]
  have H:da a (a.f / wK k-last-1)=aq e++(aq g++(aq P3++(aq r++(aq D++(aq F++aq P7))))):=by unfold da;rw[ae (by omega),t,E,y,S,G,T,U]
  have B:acc++da a (a.f / wK k-last-1)=acc++aq e++aq g++aq P3++aq r++aq D++aq F++aq P7:=by rw[H];simp only[bg]
  refine⟨u9,a,N,?_,(((SY.trans g6).trans g7).trans g8).trans g9,S2,S9,Tb⟩;rw[B];clear B H;rcases q with ⟨rfl,rfl⟩ | ⟨j,w,rfl,SK,rfl,o,O⟩
  ·have hz:a.f / wK k-(-1)-1=a.f / wK k:=by omega
   rw[hz]at v1;have S7:((0:Nat):Int)=0:=rfl;rw[S7]at ix SP;have SN:IntKind.i64.wrap 1=((0+1:Nat):Int):=rfl;unfold nQ;clear t E y S G T U;generalize acc++aq e++aq g++aq P3++aq r++aq D++aq F++aq P7=T7 at*;generalize acc++aq e++aq g++aq P3++aq r++aq D++aq F=T6 at*;generalize acc++aq e++aq g++aq P3++aq r++aq D=T5 at*;generalize acc++aq e++aq g++aq P3++aq r=T4 at*;generalize acc++aq e++aq g++aq P3=T3 at*;generalize acc++aq e++aq g=T2 at*;generalize acc++aq e=T1,R (d+2)=rr,(e:Int)=Q1,(g:Int)=Q2,(P3:Int)=Q3,(r:Int)=Q4,(D:Int)=Q5,(F:Int)=Q6,(P7:Int)=Q7,IntKind.u64.wrap a.mx=M4,IntKind.u64.wrap a.mn=M3,IntKind.u64.wrap a.a=M6,IntKind.u64.wrap a.z=M7,a.f / wK k=A3,a.n-1=N1 at*;generalize a.n=NN,wK k=WW,(k:Int)=KK,(l.length:Int)=LL,((0+1:Nat):Int)=K1 at*;simp[S6,SP,ix,ld,e1,e2,V,e3,q1,v1,e4,t1,Y,Sk,s3,v3,e5,t2,X,Sj,Sl,e6,e7,t3,Sm,hn,SQ,SU,d4,e8,Td,e9,SV,t5,SR,d6,SW,t6,SS,d7,SX,t7,Sn,Sp,Sr,Ss,Su,Sv,Sw,Sx,Sy,Sz,SA,SB,SC,SD,SE,SF,SG,SH,SI,SJ,SN]
  ·obtain⟨cj,pj,ij,_,lj⟩:=RA.Gf (h.gr S4 g2) (n:=((j:Nat):Int)) rfl SK;have cp:(0:Int)<((j+1:Nat):Int):=by omega
   have wj:IntKind.i64.wrap (((j+1:Nat):Int)-1)=((j:Nat):Int):=by rw[aw _ (by omega) (by omega)];omega
   have q2:=oV d hw o O;have SM:=gG o (show 0<=wK k by omega);have SL:w.f / wK k<=w.f:=oA _ o;have s1:ah .sub (J (a.f / wK k)) (J (w.f / wK k))=some (J (a.f / wK k-w.f / wK k)):=tG (by omega) (by omega);have s2:ah .sub (J (a.f / wK k-w.f / wK k)) (J 1)=some (J (a.f / wK k-w.f / wK k-1)):=tG (by omega) (by omega);clear SM SL o O;unfold nQ;generalize a.f / wK k-w.f / wK k-1=A1 at*;generalize a.f / wK k-w.f / wK k=A2 at*;generalize w.f / wK k=A4 at*;clear t E y S G T U;generalize acc++aq e++aq g++aq P3++aq r++aq D++aq F++aq P7=T7 at*;generalize acc++aq e++aq g++aq P3++aq r++aq D++aq F=T6 at*;generalize acc++aq e++aq g++aq P3++aq r++aq D=T5 at*;generalize acc++aq e++aq g++aq P3++aq r=T4 at*;generalize acc++aq e++aq g++aq P3=T3 at*;generalize acc++aq e++aq g=T2 at*;generalize acc++aq e=T1,R (d+2)=rr,(e:Int)=Q1,(g:Int)=Q2,(P3:Int)=Q3,(r:Int)=Q4,(D:Int)=Q5,(F:Int)=Q6,(P7:Int)=Q7,IntKind.u64.wrap a.mx=M4,IntKind.u64.wrap a.mn=M3,IntKind.u64.wrap a.a=M6,IntKind.u64.wrap a.z=M7,a.f / wK k=A3,a.n-1=N1 at*;generalize a.n=NN,wK k=WW,(k:Int)=KK,(l.length:Int)=LL,((j+1+1:Nat):Int)=K2,((j+1:Nat):Int)=K1,((j:Nat):Int)=K0 at*;simp[S6,SP,ix,ld,e1,e2,V,e3,q1,cp,wj,ij,lj,q2,s1,s2,v1,e4,t1,Y,Sk,s3,v3,e5,t2,X,Sj,Sl,e6,e7,t3,Sm,hn,SQ,SU,d4,e8,Td,e9,SV,t5,SR,d6,SW,t6,SS,d7,SX,t7,Sn,Sp,Sr,Ss,Su,Sv,Sw,Sx,Sy,Sz,SA,SB,SC,SD,SE,SF,SG,SH,SI,SJ,w1]
 ·have H:da a (a.f / wK k-last-1)=aq e++(aq g++(aq P3++[])):=by unfold da;rw[af (by omega),t,E,y]
  have B:acc++da a (a.f / wK k-last-1)=acc++aq e++aq g++aq P3:=by rw[H];simp only[bg,lg]
  refine⟨u5,a,N,?_,SY,S2,S9,Tb⟩;rw[B];clear B H;rcases q with ⟨rfl,rfl⟩ | ⟨j,w,rfl,SK,rfl,o,O⟩
  ·have hz:a.f / wK k-(-1)-1=a.f / wK k:=by omega
   rw[hz]at v1;have S7:((0:Nat):Int)=0:=rfl;rw[S7]at ix SP;have SN:IntKind.i64.wrap 1=((0+1:Nat):Int):=rfl;unfold nQ;clear t E y;generalize acc++aq e++aq g++aq P3=T3 at*;generalize acc++aq e++aq g=T2 at*;generalize acc++aq e=T1,R (d+2)=rr,(e:Int)=Q1,(g:Int)=Q2,(P3:Int)=Q3,a.f / wK k=A3,a.n-1=N1 at*;generalize a.n=NN,wK k=WW,(k:Int)=KK,(l.length:Int)=LL,((0+1:Nat):Int)=K1 at*;simp[S6,SP,ix,ld,e1,e2,V,e3,q1,v1,e4,t1,Y,Sk,s3,v3,e5,t2,X,Sj,Sl,e6,e7,t3,Sm,hn,bD,SN]
  ·obtain⟨cj,pj,ij,_,lj⟩:=RA.Gf (h.gr S4 g2) (n:=((j:Nat):Int)) rfl SK;have cp:(0:Int)<((j+1:Nat):Int):=by omega
   have wj:IntKind.i64.wrap (((j+1:Nat):Int)-1)=((j:Nat):Int):=by rw[aw _ (by omega) (by omega)];omega
   have q2:=oV d hw o O;have SM:=gG o (show 0<=wK k by omega);have SL:w.f / wK k<=w.f:=oA _ o;have s1:ah .sub (J (a.f / wK k)) (J (w.f / wK k))=some (J (a.f / wK k-w.f / wK k)):=tG (by omega) (by omega);have s2:ah .sub (J (a.f / wK k-w.f / wK k)) (J 1)=some (J (a.f / wK k-w.f / wK k-1)):=tG (by omega) (by omega);clear SM SL o O;unfold nQ;generalize a.f / wK k-w.f / wK k-1=A1 at*;generalize a.f / wK k-w.f / wK k=A2 at*;generalize w.f / wK k=A4 at*;clear t E y;generalize acc++aq e++aq g++aq P3=T3 at*;generalize acc++aq e++aq g=T2 at*;generalize acc++aq e=T1,R (d+2)=rr,(e:Int)=Q1,(g:Int)=Q2,(P3:Int)=Q3,a.f / wK k=A3,a.n-1=N1 at*;generalize a.n=NN,wK k=WW,(k:Int)=KK,(l.length:Int)=LL,((j+1+1:Nat):Int)=K2,((j+1:Nat):Int)=K1,((j:Nat):Int)=K0 at*;simp[S6,SP,ix,ld,e1,e2,V,e3,q1,cp,wj,ij,lj,q2,s1,s2,v1,e4,t1,Y,Sk,s3,v3,e5,t2,X,Sj,Sl,e6,e7,t3,Sm,hn,bD,w1]
end
section
variable {s t u s0:St}{x y b lx:S}{acc:List gq}{bs:Bs}{p q n e:Nat}{r:Rr}{vs:List S}
theorem sH.wf(h:sH p s t):t.wf:=h.1
structure GC(e:Nat)(s:St)(p:Nat)(bs:Bs)(u:St)(r:Rr)(lx:S)(n:Nat)(vs:List S):Prop where
 rd:u.get p=some (.K true (cC bs r.at_ r.bad))
 at_:r.at_<=bs.length
 bt:sH p s u
 ow:Ow e u lx n vs
 new:∀c,own lx=some c->s.size<=c/\c<u.size
 pl:p<s.size
theorem GC.but(h:GC e s p bs u r lx n vs){d:Rr}(b:sH p u t)(g:t.get p=some (.K true (cC bs d.at_ d.bad)))(f:d.at_<=bs.length):GC e s p bs t d lx n vs:=
 ⟨g,f,h.bt.trans b,h.ow.keep λc a=>b.2.2 c (h.new c a).2 (by have:=h.new c a;have:=h.pl;omega),λc a=>⟨(h.new c a).1,bh (h.new c a).2 b.2.1⟩,h.pl⟩
theorem GC.next(d:Nat)(h:GC e s p bs u r lx n vs)(g:bs.length<=100000) :
 ∃u',R (d+2) 142 [Z (.ptr p 0)] u=some (J6 ((bE bs r).1:Nat),u')/\GC e s p bs u' (bE bs r).2 lx n vs/\(bE bs r).1<2 ^ 64/\sH p u u':=by
 obtain⟨i,c,b,f,a⟩:=Ce d h.bt.wf h.rd g h.at_;rw[LM]at c b a;exact⟨i,c,h.but f b a,mL bs r,f⟩
theorem GC.gr(h:GC e s p bs u r lx n vs)(g:Gr u t):GC e s p bs t r lx n vs:=h.but (Gr.but g p) (g.get h.rd h.bt.wf) h.at_
theorem GC.err(h:GC e s p bs u r lx n vs):∃b,aj 1 (Z (.ptr p 2)) (B true) u=some (tt,b)/\GC e s p bs b ⟨r.at_,true⟩ lx n vs:=by
 have a:=h.bt.wf.lt h.rd;exact⟨_,aJ h.rd (by simp),h.but (sH.set h.bt.wf a _) (St.dh) h.at_⟩
theorem GC.lit{by_:Nat}{ws:List S}(h:GC e s p bs u r lx n vs)(E:0<e)(I:ws.length=e)(F:(n+1)*by_<=140737488355328) :
 ∃x' t,aF e by_ (Z lx) (Z (.sl u.size 0 1 (.known 1))) (u.push (.K true ws))=some (Z x',t)/\GC e s p bs t r x' (n+1) (vs++ws):=by
 have L:=Fr.lit e h.bt.wf (n:=1) (vs:=ws) (by omega);obtain⟨x',t,y,x,z,o,k,G⟩:=(h.ow.gr h.bt.wf L.gr).append (by_:=by_) L.gr.wf E L.rd.src (by omega) F;have J:=L.gr.2.1;have B:=h.bt.2.1;have g:=h.pl;have w:∀c,c<u.size->own lx≠some c->t.get c=u.get c:=λc d j=>by rw[k c (by omega) j,L.gr.2.2 c d]
 have j:∀c,c<s.size->own lx≠some c:=λc d e=>by have:=h.new c e;omega
 refine⟨x',t,y,⟨by rw[w p (by omega) (j p g)];exact h.rd,h.at_,⟨x,by omega,λc d q=>by rw[w c (by omega) (j c d),h.bt.2.2 c d q]⟩,o,λc d => ?_,g⟩⟩;have D:=o.lt x d;rcases G with n | n | ⟨H,n,C⟩
 ·rw[n]at d;cases d
 ·rw[n]at d;have:=h.new c d;omega
 ·rw[n]at d;cases d;omega
theorem rh(a c:Int):∃m,ah .add (J6 (U6 a)) (J6 (U6 c))=some (J6 m)/\az .i64 (J6 m)=some (J (W6 (a+c))):=by
 refine⟨_,cw _ _ _,?_⟩;rw[aY]
 have:W6 (IntKind.u64.wrap (U6 a+U6 c))=W6 (a+c):=by
  unfold W6 U6 IntKind.wrap;simp[IntKind.signed,IntKind.bits]
 show some (J (W6 (IntKind.u64.wrap (U6 a+U6 c))))=_
 rw[this]
theorem jY(a:Int):az .u64 (J a)=some (J6 (U6 a)):=by rw[aY]
theorem Hj(d:Nat){step:Int}{m c:Nat}(h:GC 2 s p bs u r lx acc.length (cells cS acc))(hl:bs.length<=100000)(j:r.bad=false)(Sn:acc.length+(m+1)=c)(hc:c<=64) :
 ∃u' H g q r',iJ (R (d+2)) 8192 [Z (.ptr p 0),J6 (c:Nat),Z lx,J step,J acc.length] u=some (.normal [Z (.ptr p 0),J6 (c:Nat),Z H,J q,J g.length],u') ∧
  GC 2 s p bs u' r' H g.length (cells cS g)/\g.length=acc.length+1/\l6 bs m g q r'=l6 bs (m+1) acc step r:=by
 have N:(acc.length:Int)<(c:Int):=by omega
 have w1:IntKind.i64.wrap ((acc.length:Int)+1)=((acc.length+1:Nat):Int):=by rw[aw _ (by omega) (by omega)];omega
 have wc:az .i64 (J6 (c:Nat))=some (J c):=by rw[aY,fJ _ (by omega)]
 have an:ba (Z (.ptr p 0))=some (Z (.ptr p 0)):=rfl;have q2:aa (Z (.ptr p 2)) u.get=some (B false):=ag h.rd (by simp[j]);obtain⟨u1,e1,C,n1,k1⟩:=h.next d hl;have v1:=q3 (s:=u1) (d+1) n1;have Sm:az .i64 (J6 ((bE bs r).1:Int))=some (J (W6 ((bE bs r).1:Nat))):=by rw[aY]
 obtain⟨z,e2,G2,n2,k2⟩:=C.next d hl;have v2:=q3 (s:=z) (d+1) n2
 have w:∀e:gq,acc.length<=100000->∃x' t s',aE z (aN 1 (aA [iz,iz] [(0,2,AS e)]))=some (Z (.sl z.size 0 1 (.known 1)),s')/\aF 2 16 (Z lx) (Z (.sl z.size 0 1 (.known 1))) s'=some (Z x',t)/\GC 2 s p bs t (bE bs (bE bs r).2).2 x' (acc++[e]).length (cells cS (acc++[e])):=λe Sl=>by
  obtain⟨x',t,D,G⟩:=G2.lit (by_:=16) (ws:=cS e) (by omega) rfl (by omega);refine⟨x',t,_,rfl,D,?_⟩;rw[dK,aI]
  simpa[cells]using G
 cases o:acc.getLast? with
 |none=>
  have O:acc=[]:=uy.1 o;subst O;obtain⟨e,y⟩:=aZ (⟨W6 ((bE bs r).1:Nat),fc (bE bs (bE bs r).2).1⟩:gq);obtain⟨x',u4,u3,V,D,G4⟩:=w e (by simp);refine⟨u4,x',[e],step,(bE bs (bE bs r).2).2,?_,G4,rfl,?_⟩
  ·unfold iJ;have I:aO (aA [iz,iz] [(0,1,J (W6 ((bE bs r).1:Nat))),(1,1,J (fc (bE bs (bE bs r).2).1))])=some (AS e):=by rw[y];rfl
   have k0:(([]:List gq).length:Int)=0:=rfl;have S:(([e]:List gq).length:Int)=1:=rfl;rw[k0]at N ⊢;rw[S];have w2:IntKind.i64.wrap 1=1:=rfl;clear y w;generalize R (d+2)=rr,W6 ((bE bs r).1:Int)=A1 at*;generalize((bE bs r).1:Int)=A2,fc (bE bs (bE bs r).2).1=A3,((bE bs (bE bs r).2).1:Int)=A4,(c:Int)=CC at*;simp[wc,N,an,q2,e1,Sm,e2,v2,I,V,D,w2,bD]
  ·rw[l6];simp[j,y]
 |some was=>
  obtain⟨k,hk⟩:∃k,acc.length=k+1:=⟨acc.length-1,by
   cases acc with
   |nil=>cases o
   |cons _ _=>simp⟩
  have Q:acc[k]? = some was:=by
   rw[mZ]at o
   rwa [hk,jC]at o
  have Sk:¬(acc.length:Int)=0:=by omega
  have w2:IntKind.i64.wrap ((acc.length:Int)-1)=((k:Nat):Int):=by rw[aw _ (by omega) (by omega)];omega
  obtain⟨c',p',ix,_,lt,lv⟩:=nJ.CK C.ow.rd (n:=((k:Nat):Int)) rfl Q;have F:=mM ix;have E:z.get c'=u1.get c':=k2.2.2 c' (C.new c' F).2 (by have:=C.new c' F;have:=C.pl;omega);have T:aa (Z (.ptr c' p')) z.get=some (J was.t):=by rw[kS E];exact lt
  have U:aa (Z (.ptr c' (p'+1))) z.get=some (J was.v):=by rw[kS E];exact lv
  obtain⟨e,y⟩:=aZ (⟨W6 (was.t+W6 (step+fc (bE bs r).1)),W6 (was.v+fc (bE bs (bE bs r).2).1)⟩:gq);obtain⟨x',u6,u5,V,D,G6⟩:=w e (by omega);have x:(acc++[e]).length=acc.length+1:=by simp
  obtain⟨m1,s1,X⟩:=rh step (fc (bE bs r).1);obtain⟨m2,s2,Y⟩:=rh was.v (fc (bE bs (bE bs r).2).1);obtain⟨m3,s3,Sj⟩:=rh was.t (W6 (step+fc (bE bs r).1));have f1:=jY step;have f2:=jY (fc (bE bs r).1);have f3:=jY was.v;have f4:=jY (fc (bE bs (bE bs r).2).1);have f5:=jY was.t;have f6:=jY (W6 (step+fc (bE bs r).1));refine⟨u6,x',acc++[e],W6 (step+fc (bE bs r).1),(bE bs (bE bs r).2).2,?_,G6,x,?_⟩
  ·have I:aO (aA [iz,iz] [(0,1,J (W6 (was.t+W6 (step+fc (bE bs r).1)))),(1,1,J (W6 (was.v+fc (bE bs (bE bs r).2).1)))])=some (AS e):=by rw[y];rfl
   unfold iJ;rw[x];clear y w;generalize U6 (W6 (step+fc (bE bs r).1))=U5,W6 (was.t+W6 (step+fc (bE bs r).1))=T1 at*;generalize W6 (step+fc (bE bs r).1)=T2,W6 (was.v+fc (bE bs (bE bs r).2).1)=T3,U6 step=U1,U6 (fc (bE bs r).1)=U2,U6 was.v=U3,U6 (fc (bE bs (bE bs r).2).1)=U4,U6 was.t=UT,R (d+2)=rr at*;generalize fc (bE bs (bE bs r).2).1=A3,fc (bE bs r).1=A5,((bE bs (bE bs r).2).1:Int)=A4,((bE bs r).1:Int)=A2,((acc.length+1:Nat):Int)=N1,(acc.length:Int)=N0,((k:Nat):Int)=K0,(c:Int)=CC at*;simp[wc,N,an,q2,Sk,f1,e1,v1,f2,s1,X,w2,ix,lt,lv,T,U,f3,e2,v2,f4,s2,Y,f5,f6,s3,Sj,I,V,D,w1,bD]
  ·rw[l6];simp[j,y,o]
theorem OJ(d:Nat)(h:GC 2 s p bs u r .av 0 [])(hl:bs.length<=8000) :
 ∃n lx,R (d+3) 147 [Z (.ptr p 0)] u=some (Z lx,n)/\GC 2 s p bs n (qi bs r).2 lx (qi bs r).1.length (cells cS (qi bs r).1):=by
 obtain⟨u1,e1,X,n1,k1⟩:=h.next d (by omega);obtain⟨D,C⟩:=aZ (qi bs r);have H:ba (Z (.ptr p 0))=some (Z (.ptr p 0)):=rfl
 have loop:∀(cnt:Nat) (k:St) (F:Rr),cnt<=64->GC 2 s p bs k F .av 0 []->l6 bs cnt [] 0 F=D →
  ∃n lx,loops (iJ (R (d+2)) 8192) 8192 [Z (.ptr p 0),J6 (cnt:Nat),Z .av,J 0,J 0] k=some (.exit 0 [Z lx],n)/\GC 2 s p bs n D.2 lx D.1.length (cells cS D.1):=by
  intro cnt k F hc z T
  obtain⟨j,Sl,y,t,rfl,N⟩:=aL (f:=iJ (R (d+2)) 8192)
   (λq v u=>∃(lx:S) (acc:List gq) (step:Int) (r:Rr),acc.length+q=cnt/\v=[Z (.ptr p 0),J6 (cnt:Nat),Z lx,J step,J acc.length]/\GC 2 s p bs u r lx acc.length (cells cS acc)/\l6 bs q acc step r=D)
   (λj u=>∃lx,j = .exit 0 [Z lx]/\GC 2 s p bs u D.2 lx D.1.length (cells cS D.1)) (by
   rintro q v u ⟨lx,acc,step,r,hq,rfl,E,O⟩;have wc:az .i64 (J6 (cnt:Nat))=some (J cnt):=by rw[aY,fJ _ (by omega)]
   cases q with
   |zero=>
    right;have hk:acc.length=cnt:=(by omega);rw[<-O];refine⟨.exit 0 [Z lx],u,?_,(λv h=>by cases h),lx,rfl,E⟩;unfold iJ;rw[hk];simp[wc]
   |succ q=>
    cases c:r.bad with
    |true=>
     right;have V:aa (Z (.ptr p 2)) u.get=some (B true):=ag E.rd (by simp[c]);have Sj:(acc.length:Int)<(cnt:Int):=(by omega);have Q:D=(acc,r):=(by rw[<-O,l6,af c]);rw[Q];refine⟨.exit 0 [Z lx],u,?_,(λv h=>by cases h),lx,rfl,E⟩;unfold iJ;simp[wc,Sj,H,V,bD]
    |false=>
     left;obtain⟨n,t,x,w,r',e,G,Sk,U⟩:=Hj d E (by omega) c hq hc (step:=step);exact⟨_,n,q,e,by omega,t,x,w,r',by omega,rfl,G,by rw[U];exact O⟩)
   8192 cnt _ k ⟨.av,[],0,F,by simp,rfl,z,T⟩ (by omega)
  exact⟨Sl,t,y,N⟩
 by_cases hn:64<(bE bs r).1
 ·have g:kI bs 64 r=(0,⟨(bE bs r).2.at_,true⟩):=by unfold kI;rw[af hn]
  obtain⟨k,e2,z⟩:=X.err;have o:D=([],⟨(bE bs r).2.at_,true⟩):=by rw[C];unfold qi;rw[g];rfl
  rw[<-C,o];refine⟨k,.av,?_,z⟩;have I:(64:Int)<((bE bs r).1:Int):=by omega
  have V:aa (Z (.ptr p 2)) k.get=some (B true):=ag z.rd rfl
  have y:loops (iJ (R (d+2)) 8192) 8192 [Z (.ptr p 0),J6 ((bE bs r).1:Nat),Z .av,J 0,J 0] k=some (.exit 0 [Z .av],k):=by
   have:iJ (R (d+2)) 8192 [Z (.ptr p 0),J6 ((bE bs r).1:Nat),Z .av,J 0,J 0] k=some (.exit 0 [Z .av],k):=by
    have cv:az .i64 (J6 ((bE bs r).1:Int))=some (J (W6 ((bE bs r).1:Nat))):=(by rw[aY]);unfold iJ;generalize W6 ((bE bs r).1:Int)=WN at*;generalize((bE bs r).1:Int)=Y at*;by_cases hw:0<WN
    ·simp[cv,hw,H,V,bD]
    ·simp[cv,hw,bD]
   rw[show 8192=(8192-1)+1 from rfl,loops];rw[show 8192=(8192-1)+1 from rfl]at this;rw[this]
  rw[Bb];unfold f147;generalize R (d+2)=rr,((bE bs r).1:Int)=Y at*;simp[e1,I,H,e2,y]
 ·have g:kI bs 64 r=bE bs r:=by unfold kI;rw[ae hn]
  have o:l6 bs (bE bs r).1 [] 0 (bE bs r).2=D:=by rw[C];unfold qi;rw[g]
  obtain⟨n,lx,y,G⟩:=loop _ u1 _ (by omega) X o;rw[<-C];have I:¬(64:Int)<((bE bs r).1:Int):=by omega
  refine⟨n,lx,?_,G⟩
  ·rw[Bb];unfold f147;generalize R (d+2)=rr,((bE bs r).1:Int)=Y at*;simp[e1,I,y]
end
section
variable {s t u s0:St}{x y b lx:S}{acc:List e8}{bs:Bs}{p q n e k:Nat}{r:Rr}{vs:List S}
theorem ot(a:Int):0<=U6 a/\U6 a<18446744073709551616:=by
 unfold U6 IntKind.wrap;simp[IntKind.signed,IntKind.bits];omega
theorem GC.zz(h:GC e s p bs u r lx n vs){B:er}(i:s.size<=q)(d:q<u.size)(g:own lx≠some q):GC e s p bs (u.set q B) r lx n vs:=by
 have f:=h.pl;exact⟨by rw[St.bO (by omega)];exact h.rd,h.at_,⟨St.wf_set h.bt.wf d _,by simpa using h.bt.2.1,λc a b=>by rw[St.bO (by omega)];exact h.bt.2.2 c a b⟩,h.ow.keep λc a=>St.bO λe=>g (by rw[a,e]),λc a=>by simpa using h.new c a,h.pl⟩
theorem uj{a w:Int}(f:0<=a)(g:a<18446744073709551616)(i:1<=w)(e:w<=1440):ah .quo (J6 a) (J6 w)=some (J6 (a / w)):=by
 obtain⟨m,d⟩:∃m:Nat,(m:Int)=a:=⟨a.toNat,by omega⟩;obtain⟨c,b⟩:∃c:Nat,(c:Int)=w:=⟨w.toNat,by omega⟩;have h:m / c<=m:=FO _ _;rw[<-d,<-b,qW .u64 m c (by omega) (wrap64 _ (by omega))];rfl
theorem Iw{n:Nat}(h:n<2 ^ 64):ah .and (J6 (n:Nat)) (J6 4611686018427387903)=some (J6 ((n%4611686018427387904:Nat):Int)):=by
 have d:n &&& 4611686018427387903=n%4611686018427387904:=by
  have:=zQ n 62
  simpa using this
 have c:(BitVec.ofInt 64 (n:Int) &&& BitVec.ofInt 64 4611686018427387903).toNat=n%4611686018427387904:=by
  rw[Ea];have a:(BitVec.ofInt 64 (n:Int)).toNat=n:=by simp[Eb];omega
  have b:(BitVec.ofInt 64 4611686018427387903).toNat=4611686018427387903:=by decide
  rw[a,b,d]
 have e:IntKind.u64.wrap ((n%4611686018427387904:Nat):Int)=((n%4611686018427387904:Nat):Int):=wrap64 _ (by omega);show some (J6 (IntKind.u64.wrap ((BitVec.ofInt 64 (n:Int) &&& BitVec.ofInt 64 4611686018427387903).toNat:Nat)))=_
 rw[c,e]
theorem Hh(d:Nat){m q:Nat}(h1:1<=k)(h3:k<=3)(h:GC 7 s p bs u r lx acc.length (cells cA acc))(hl:bs.length<=100000)(TA:r.bad=false)(Uk:acc.length+(m+1)=q)(hc:q<=64) :
 ∃u' TK r' a,iK (R (d+2)) 8192 [Z (.ptr p 0),J6 (q:Nat),Z lx,J6 (wK k),J acc.length] u=some (.normal [Z (.ptr p 0),J6 (q:Nat),Z TK,J6 (wK k),J ((acc.length+1:Nat):Int)],u') ∧
  GC 7 s p bs u' r' TK (acc++[a]).length (cells cA (acc++[a]))/\Lw bs (wK k) (acc.getLast?.map e8.f) r=(a,r'):=by
 have hw:=kr k;have SC:(acc.length:Int)<(q:Int):=by omega
 have w1:IntKind.i64.wrap ((acc.length:Int)+1)=((acc.length+1:Nat):Int):=by rw[aw _ (by omega) (by omega)];omega
 have wc:az .i64 (J6 (q:Nat))=some (J q):=by rw[aY,fJ _ (by omega)]
 have an:ba (Z (.ptr p 0))=some (Z (.ptr p 0)):=rfl;have q2:aa (Z (.ptr p 2)) u.get=some (B false):=ag h.rd (by simp[TA]);have T9:=h.pl;obtain⟨u1,e1,G1,n1,k1⟩:=h.next d hl;obtain⟨r1,SI⟩:=aZ (Hn bs r)
 obtain⟨u2,G2,TF⟩:∃u2,GC 7 s p bs u2 r1 lx acc.length (cells cA acc)/\((¬1099511627776<(bE bs r).1/\u2=u1)\/(1099511627776<(bE bs r).1/\r1.bad=true/\aj 1 (Z (.ptr p 2)) (B true) u1=some (tt,u2))):=by
  by_cases Tk:1099511627776<(bE bs r).1
  ·obtain⟨u2,e2,G2⟩:=G1.err;have:r1=⟨(bE bs r).2.at_,true⟩:=by rw[SI];unfold Hn;rw[af Tk]
   exact⟨u2,by rw[this];exact G2,.inr ⟨Tk,by rw[this],e2⟩⟩
  ·have:r1=(bE bs r).2:=by rw[SI];unfold Hn;rw[ae Tk]
   exact⟨u1,by rw[this];exact G1,.inl ⟨Tk,rfl⟩⟩
 obtain⟨F,hF⟩:=aZ (Rn bs (wK k) (acc.getLast?.map e8.f) r);obtain⟨w,S9⟩:∃A,A=W6 (F*wK k):=⟨_,rfl⟩;have o4:ah .mul (J6 F) (J6 (wK k))=some (J6 (U6 (F*wK k))):=by rw[zf]
 have o5:az .i64 (J6 (U6 (F*wK k)))=some (J w):=by
  rw[aY,S9]
  have:W6 (U6 (F*wK k))=W6 (F*wK k):=by
   obtain⟨k',TW⟩:∃k':Int,U6 (F*wK k)=F*wK k+18446744073709551616*k':=by
    unfold U6 IntKind.wrap;simp[IntKind.signed,IntKind.bits];exact⟨-(F*wK k / 18446744073709551616),by omega⟩
   exact Me TW
  show some (J (W6 (U6 (F*wK k))))=_
  rw[this]
 obtain⟨u3,e3,G3,n3,k3⟩:=G2.next d hl;obtain⟨r2,Tc⟩:=aZ ((bE bs r1).2);rw[<-Tc]at G3;obtain⟨MM,Sz⟩:∃A:Int,A=((bE bs r1).1%4611686018427387904:Nat):=⟨_,rfl⟩;obtain⟨NN,Tb⟩:∃A:Int,A=MM+1:=⟨_,rfl⟩;have SQ:=Iw n3;rw[<-Sz]at SQ;have Th:az .i64 (J6 MM)=some (J MM):=by rw[aY,Sz,fJ _ (by omega)]
 have Ti:IntKind.i64.wrap (MM+1)=NN:=by rw[Tb,Sz];exact aw _ (by omega) (by omega)
 obtain⟨x0,Te⟩:=aZ (⟨w,NN,0,0,0,0,0⟩:e8);have Tj:aO (aA [iz,iz,iz,iz,iz,iz,iz] [(0,1,J w),(1,1,J NN)])=some (AA x0):=by rw[Te];rfl
 obtain⟨u4,u5,e4,e5,g5,b5,z5⟩:=IG G3.bt.wf x0;have G5:=G3.gr g5;have E:s.size<=u3.size:=G3.bt.2.1;have H:own lx≠some u3.size:=λe=>by have:=(G3.new _ e).2;omega
 obtain⟨Q,hQ⟩:=aZ (u3.size);rw[<-hQ]at e4 e5 b5 z5 E H;have SH:Q≠p:=by omega
 obtain⟨u6,e6,G6,n6,k6⟩:=G5.next d hl;obtain⟨r3,Td⟩:=aZ ((bE bs r2).2);rw[<-Td]at G6;have ez:=q3 (s:=u6) (d+1) n6;obtain⟨c,Ta⟩:∃A,A=fc (bE bs r2).1:=⟨_,rfl⟩;rw[<-Ta]at ez;have b6:u6.get Q=some (.K true (cA x0)):=by rw[k6.2.2 Q (by omega) SH];exact b5
 have z6:=k6.2.1;obtain⟨u7,h7⟩:∃v,v=u6.set Q (.K true (cA ⟨w,NN,0,c,0,0,0⟩)):=⟨_,rfl⟩;have U:aj 1 (Z (.ptr Q 3)) (J c) u6=some (tt,u7):=by rw[h7];exact(aJ b6 (by simp[cA])).trans (by rw[Te];rfl)
 have b7:u7.get Q=some (.K true (cA ⟨w,NN,0,c,0,0,0⟩)):=by rw[h7];exact St.dh
 have G7:GC 7 s p bs u7 r3 lx acc.length (cells cA acc):=by rw[h7];exact G6.zz E (by omega) H
 have z7:u7.size=u6.size:=by rw[h7];simp
 have T:aa (Z (.ptr Q 3)) u7.get=some (J c):=ag b7 rfl;obtain⟨u8,h8⟩:∃v,v=u7.set Q (.K true (cA ⟨w,NN,c,c,0,0,0⟩)):=⟨_,rfl⟩;have V:aj 1 (Z (.ptr Q 2)) (J c) u7=some (tt,u8):=by rw[h8];exact(aJ b7 (by simp[cA])).trans (by rfl)
 have b8:u8.get Q=some (.K true (cA ⟨w,NN,c,c,0,0,0⟩)):=by rw[h8];exact St.dh
 have G8:GC 7 s p bs u8 r3 lx acc.length (cells cA acc):=by rw[h8];exact G7.zz E (by omega) H
 have z8:u8.size=u7.size:=by rw[h8];simp
 obtain⟨u9,h9⟩:∃v,v=u8.set Q (.K true (cA ⟨w,NN,c,c,c,0,0⟩)):=⟨_,rfl⟩;have X:aj 1 (Z (.ptr Q 4)) (J c) u8=some (tt,u9):=by rw[h9];exact(aJ b8 (by simp[cA])).trans (by rfl)
 have b9:u9.get Q=some (.K true (cA ⟨w,NN,c,c,c,0,0⟩)):=by rw[h9];exact St.dh
 have G9:GC 7 s p bs u9 r3 lx acc.length (cells cA acc):=by rw[h9];exact G8.zz E (by omega) H
 have z9:u9.size=u8.size:=by rw[h9];simp
 obtain⟨Sk,S3⟩:∃v,v=u9.set Q (.K true (cA ⟨w,NN,c,c,c,c,0⟩)):=⟨_,rfl⟩;have y:aj 1 (Z (.ptr Q 5)) (J c) u9=some (tt,Sk):=by rw[S3];exact(aJ b9 (by simp[cA])).trans (by rfl)
 have TQ:Sk.get Q=some (.K true (cA ⟨w,NN,c,c,c,c,0⟩)):=by rw[S3];exact St.dh
 have TL:GC 7 s p bs Sk r3 lx acc.length (cells cA acc):=by rw[S3];exact G9.zz E (by omega) H
 have Ua:Sk.size=u9.size:=by rw[S3];simp
 obtain⟨SB,S4⟩:∃v,v=Sk.set Q (.K true (cA ⟨w,NN,c,c,c,c,c⟩)):=⟨_,rfl⟩;have z:aj 1 (Z (.ptr Q 6)) (J c) Sk=some (tt,SB):=by rw[S4];exact(aJ TQ (by simp[cA])).trans (by rfl)
 have SW:SB.get Q=some (.K true (cA ⟨w,NN,c,c,c,c,c⟩)):=by rw[S4];exact St.dh
 have Tl:GC 7 s p bs SB r3 lx acc.length (cells cA acc):=by rw[S4];exact TL.zz E (by omega) H
 have Ub:SB.size=Sk.size:=by rw[S4];simp
 have x:aa (Z (.ptr Q 1)) SB.get=some (J NN):=ag SW rfl;have Sm:aa (Z (.ptr Q 3)) SB.get=some (J c):=ag SW rfl
 have S2:∀{u':St} {r':Rr} {a:e8},GC 7 s p bs u' r' lx acc.length (cells cA acc)->u'.get Q=some (.K true (cA a))->∃x' t s',ay 7 (Z (.ptr Q 0)) u'.get=some (AA a)/\aE u' (aN 1 (aA [iz,iz,iz,iz,iz,iz,iz] [(0,7,AA a)]))=some (Z (.sl u'.size 0 1 (.known 1)),s')/\aF 7 56 (Z lx) (Z (.sl u'.size 0 1 (.known 1))) s'=some (Z x',t)/\GC 7 s p bs t r' x' (acc++[a]).length (cells cA (acc++[a])):=by
  intro u' r' a hG T8;obtain⟨x',t,SD,G⟩:=hG.lit (by_:=56) (ws:=cA a) (by omega) rfl (by omega);refine⟨x',t,_,xF T8,rfl,SD,?_⟩;rw[dK,aI]
  simpa[cells]using G
 have SX:az .u64 (J c)=some (J6 (U6 c)):=jY c
 have O:∀n:Nat,n<2 ^ 64->∃m,ah .add (J6 (U6 c)) (J6 (n:Nat))=some (J6 m)/\az .i64 (J6 m)=some (J (W6 (c+(n:Nat)))):=λn hn=>by
  have:=rh c (n:Int)
  rwa [show U6 (n:Int)=(n:Int) from wrap64 n hn]at this
 have o:Lw bs (wK k) (acc.getLast?.map e8.f) r=if 1<NN then(⟨w,NN,fc (bE bs (bE bs r3).2).1,c,W6 (c+((bE bs r3).1:Nat)),W6 (c+((bE bs (bE bs (bE bs r3).2).2).1:Nat)),W6 (c+((bE bs (bE bs (bE bs (bE bs r3).2).2).2).1:Nat))⟩,(bE bs (bE bs (bE bs (bE bs r3).2).2).2).2)else(⟨w,NN,c,c,c,c,c⟩,r3):=by
  unfold Lw;dsimp only;rw[<-hF,<-S9,<-SI,<-Tc,<-Ta,<-Td,<-Sz,<-Tb]
 have I:(acc.length=0/\F=((bE bs r).1:Nat))\/∃(j c' p':Nat) (was:e8),acc.length=j+1/\ar 7 (Z lx) (J (j:Nat))=some (Z (.ptr c' p'))/\aa (Z (.ptr c' p')) u2.get=some (J was.f)/\F=U6 (U6 (((bE bs r).1:Nat)+1)+U6 was.f / wK k):=by
  cases SA:acc.getLast? with
  |none=>
   have TU:acc=[]:=uy.1 SA;rw[SA]at hF;exact .inl ⟨by rw[TU];rfl,by rw[hF];rfl⟩
  |some was=>
   rw[SA]at hF
   obtain⟨j,hj⟩:∃j,acc.length=j+1:=⟨acc.length-1,by
    cases acc with
    |nil=>cases SA
    |cons _ _=>simp⟩
   have TX:acc[j]? = some was:=by
    rw[mZ]at SA
    rwa [hj,jC]at SA
   obtain⟨c',p',ix,_,lf⟩:=RA.Gf G2.ow.rd (n:=((j:Nat):Int)) rfl TX;exact .inr ⟨j,c',p',was,hj,ix,lf,by rw[hF];rfl⟩
 clear hF;by_cases hn:1<NN
 ·rw[af hn]at o;obtain⟨SK,SY,Tm,TY,TG⟩:=Tl.next d hl;obtain⟨r4,TB⟩:∃r',r'=(bE bs r3).2:=⟨_,rfl⟩;rw[<-TB]at Tm o;have Tq:SK.get Q=some (.K true (cA ⟨w,NN,c,c,c,c,c⟩)):=by rw[TG.2.2 Q (by omega) SH];exact SW
  have Uc:=TG.2.1;obtain⟨T4,SR,SE⟩:=O (bE bs r3).1 TY;obtain⟨MX,Ty⟩:∃A,A=W6 (c+((bE bs r3).1:Nat)):=⟨_,rfl⟩;rw[<-Ty]at SE o;have Sn:aa (Z (.ptr Q 3)) SK.get=some (J c):=ag Tq rfl;obtain⟨Tf,S5⟩:∃v,v=SK.set Q (.K true (cA ⟨w,NN,c,c,MX,c,c⟩)):=⟨_,rfl⟩;have Sv:aj 1 (Z (.ptr Q 4)) (J MX) SK=some (tt,Tf):=by rw[S5];exact(aJ Tq (by simp[cA])).trans (by rfl)
  have TR:Tf.get Q=some (.K true (cA ⟨w,NN,c,c,MX,c,c⟩)):=by rw[S5];exact St.dh
  have TM:GC 7 s p bs Tf r4 lx acc.length (cells cA acc):=by rw[S5];exact Tm.zz E (by omega) H
  have Ud:Tf.size=SK.size:=by rw[S5];simp
  obtain⟨SL,SZ,Tn,TZ,TH⟩:=TM.next d hl;obtain⟨r5,TC⟩:∃r',r'=(bE bs r4).2:=⟨_,rfl⟩;rw[<-TC]at Tn o;have TS:SL.get Q=some (.K true (cA ⟨w,NN,c,c,MX,c,c⟩)):=by rw[TH.2.2 Q (by omega) SH];exact TR
  have Ue:=TH.2.1;have S:=q3 (s:=SL) (d+1) TZ;obtain⟨SS,Tz⟩:∃A,A=fc (bE bs r4).1:=⟨_,rfl⟩;rw[<-Tz]at S o;obtain⟨SM,S6⟩:∃v,v=SL.set Q (.K true (cA ⟨w,NN,SS,c,MX,c,c⟩)):=⟨_,rfl⟩;have Sw:aj 1 (Z (.ptr Q 2)) (J SS) SL=some (tt,SM):=by rw[S6];exact(aJ TS (by simp[cA])).trans (by rfl)
  have Ts:SM.get Q=some (.K true (cA ⟨w,NN,SS,c,MX,c,c⟩)):=by rw[S6];exact St.dh
  have TN:GC 7 s p bs SM r5 lx acc.length (cells cA acc):=by rw[S6];exact Tn.zz E (by omega) H
  have Uf:SM.size=SL.size:=by rw[S6];simp
  have Sp:aa (Z (.ptr Q 3)) SM.get=some (J c):=ag Ts rfl;obtain⟨SN,S0,To,T3,TI⟩:=TN.next d hl;obtain⟨r6,TD⟩:∃r',r'=(bE bs r5).2:=⟨_,rfl⟩;rw[<-TD]at To o;have Tt:SN.get Q=some (.K true (cA ⟨w,NN,SS,c,MX,c,c⟩)):=by rw[TI.2.2 Q (by omega) SH];exact Ts
  have Ug:=TI.2.1;obtain⟨T6,SU,SF⟩:=O (bE bs r5).1 T3;obtain⟨FI,Tw⟩:∃A,A=W6 (c+((bE bs r5).1:Nat)):=⟨_,rfl⟩;rw[<-Tw]at SF o;have Sr:aa (Z (.ptr Q 3)) SN.get=some (J c):=ag Tt rfl;obtain⟨SO,S7⟩:∃v,v=SN.set Q (.K true (cA ⟨w,NN,SS,c,MX,FI,c⟩)):=⟨_,rfl⟩;have Sx:aj 1 (Z (.ptr Q 5)) (J FI) SN=some (tt,SO):=by rw[S7];exact(aJ Tt (by simp[cA])).trans (by rfl)
  have Tu:SO.get Q=some (.K true (cA ⟨w,NN,SS,c,MX,FI,c⟩)):=by rw[S7];exact St.dh
  have TO:GC 7 s p bs SO r6 lx acc.length (cells cA acc):=by rw[S7];exact To.zz E (by omega) H
  have Uh:SO.size=SN.size:=by rw[S7];simp
  have Ss:aa (Z (.ptr Q 3)) SO.get=some (J c):=ag Tu rfl;obtain⟨SP,S1,Tp,T5,TJ⟩:=TO.next d hl;obtain⟨r7,TE⟩:∃r',r'=(bE bs r6).2:=⟨_,rfl⟩;rw[<-TE]at Tp o;have Tv:SP.get Q=some (.K true (cA ⟨w,NN,SS,c,MX,FI,c⟩)):=by rw[TJ.2.2 Q (by omega) SH];exact Tu
  have Ui:=TJ.2.1;obtain⟨T7,SV,SG⟩:=O (bE bs r6).1 T5;obtain⟨LA,Tx⟩:∃A,A=W6 (c+((bE bs r6).1:Nat)):=⟨_,rfl⟩;rw[<-Tx]at SG o;have Su:aa (Z (.ptr Q 3)) SP.get=some (J c):=ag Tv rfl;obtain⟨Tg,S8⟩:∃v,v=SP.set Q (.K true (cA ⟨w,NN,SS,c,MX,FI,LA⟩)):=⟨_,rfl⟩;have Sy:aj 1 (Z (.ptr Q 6)) (J LA) SP=some (tt,Tg):=by rw[S8];exact(aJ Tv (by simp[cA])).trans (by rfl)
  have TT:Tg.get Q=some (.K true (cA ⟨w,NN,SS,c,MX,FI,LA⟩)):=by rw[S8];exact St.dh
  have TP:GC 7 s p bs Tg r7 lx acc.length (cells cA acc):=by rw[S8];exact Tp.zz E (by omega) H
  have Uj:Tg.size=SP.size:=by rw[S8];simp
  obtain⟨x',t,s',ld,nw,SD,G'⟩:=S2 TP TT;refine⟨t,x',_,_,?_,G',o⟩;unfold iK;clear S2 o S9 Tb Ta Sz Te SI Tc Td O TB TC TD TE Ty Tz Tw Tx;obtain⟨UF,Sj⟩:∃A,A=U6 (F*wK k):=⟨_,rfl⟩;rw[<-Sj]at o4 o5;generalize R (d+2)=rr,((bE bs r3).1:Int)=M4,((bE bs r4).1:Int)=M5,((bE bs r5).1:Int)=M6,((bE bs r6).1:Int)=M7,U6 c=UM,((bE bs r1).1:Int)=M2,((bE bs r2).1:Int)=M3 at*;rcases TF with ⟨Tk,rfl⟩ | ⟨Tk,TV,SJ⟩
  ·have C:¬(1099511627776:Int)<((bE bs r).1:Int):=by omega
   rcases I with ⟨N,g⟩ | ⟨j,c',p',was,N,ix,lf,g⟩
   ·have D:(acc.length:Int)=0:=(by omega);have Sl:IntKind.i64.wrap 1=((acc.length+1:Nat):Int):=(by rw[N];rfl);rw[D]at SC ⊢;rw[g]at o4;clear g N D w1;generalize((bE bs r).1:Int)=M1,wK k=WW,((acc.length+1:Nat):Int)=N1,(q:Int)=CC at*;simp[wc,SC,an,q2,e1,C,o4,o5,e3,SQ,Th,Ti,Tj,e4,e5,e6,ez,U,T,V,X,y,z,x,hn,Sm,Sn,SX,SY,SR,SE,Sv,SZ,S,Sw,Sp,Sr,S0,SU,SF,Sx,Ss,Su,S1,SV,SG,Sy,ld,nw,SD,Sl,bD]
   ·have Y:(0:Int)<(acc.length:Int):=(by omega);have w2:IntKind.i64.wrap ((acc.length:Int)-1)=((j:Nat):Int):=(by rw[aw _ (by omega) (by omega)];omega);have p1:ah .add (J6 ((bE bs r).1:Int)) (J6 1)=some (J6 (U6 (((bE bs r).1:Nat)+1))):=(by rw[cw]);have p2:=jY was.f;have p3:ah .quo (J6 (U6 was.f)) (J6 (wK k))=some (J6 (U6 was.f / wK k)):=uj (ot _).1 (ot _).2 hw.1 hw.2;have p4:ah .add (J6 (U6 (((bE bs r).1:Nat)+1))) (J6 (U6 was.f / wK k))=some (J6 F):=(by rw[cw,g]);clear g N Sj;generalize U6 (((bE bs r).1:Nat)+1)=Y1,U6 was.f / wK k=Y2 at*;generalize U6 was.f=Y3,((bE bs r).1:Int)=M1,wK k=WW,((acc.length+1:Nat):Int)=N1,(acc.length:Int)=N0,((j:Nat):Int)=J0,(q:Int)=CC at*;simp[wc,SC,an,q2,e1,C,Y,p1,w2,ix,lf,p2,p3,p4,o4,o5,e3,SQ,Th,Ti,Tj,e4,e5,e6,ez,U,T,V,X,y,z,x,hn,Sm,Sn,SX,SY,SR,SE,Sv,SZ,S,Sw,Sp,Sr,S0,SU,SF,Sx,Ss,Su,S1,SV,SG,Sy,ld,nw,SD,w1,bD]
  ·have C:(1099511627776:Int)<((bE bs r).1:Int):=by omega
   rcases I with ⟨N,g⟩ | ⟨j,c',p',was,N,ix,lf,g⟩
   ·have D:(acc.length:Int)=0:=(by omega);have Sl:IntKind.i64.wrap 1=((acc.length+1:Nat):Int):=(by rw[N];rfl);rw[D]at SC ⊢;rw[g]at o4;clear g N D w1;generalize((bE bs r).1:Int)=M1,wK k=WW,((acc.length+1:Nat):Int)=N1,(q:Int)=CC at*;simp[wc,SC,an,q2,e1,C,SJ,o4,o5,e3,SQ,Th,Ti,Tj,e4,e5,e6,ez,U,T,V,X,y,z,x,hn,Sm,Sn,SX,SY,SR,SE,Sv,SZ,S,Sw,Sp,Sr,S0,SU,SF,Sx,Ss,Su,S1,SV,SG,Sy,ld,nw,SD,Sl,bD]
   ·have Y:(0:Int)<(acc.length:Int):=(by omega);have w2:IntKind.i64.wrap ((acc.length:Int)-1)=((j:Nat):Int):=(by rw[aw _ (by omega) (by omega)];omega);have p1:ah .add (J6 ((bE bs r).1:Int)) (J6 1)=some (J6 (U6 (((bE bs r).1:Nat)+1))):=(by rw[cw]);have p2:=jY was.f;have p3:ah .quo (J6 (U6 was.f)) (J6 (wK k))=some (J6 (U6 was.f / wK k)):=uj (ot _).1 (ot _).2 hw.1 hw.2;have p4:ah .add (J6 (U6 (((bE bs r).1:Nat)+1))) (J6 (U6 was.f / wK k))=some (J6 F):=(by rw[cw,g]);clear g N Sj;generalize U6 (((bE bs r).1:Nat)+1)=Y1,U6 was.f / wK k=Y2 at*;generalize U6 was.f=Y3,((bE bs r).1:Int)=M1,wK k=WW,((acc.length+1:Nat):Int)=N1,(acc.length:Int)=N0,((j:Nat):Int)=J0,(q:Int)=CC at*;simp[wc,SC,an,q2,e1,C,SJ,Y,p1,w2,ix,lf,p2,p3,p4,o4,o5,e3,SQ,Th,Ti,Tj,e4,e5,e6,ez,U,T,V,X,y,z,x,hn,Sm,Sn,SX,SY,SR,SE,Sv,SZ,S,Sw,Sp,Sr,S0,SU,SF,Sx,Ss,Su,S1,SV,SG,Sy,ld,nw,SD,w1,bD]
 ·rw[ae hn]at o;obtain⟨x',t,s',ld,nw,SD,G'⟩:=S2 Tl SW;refine⟨t,x',_,_,?_,G',o⟩;unfold iK;clear S2 o S9 Tb Ta Sz Te SI Tc Td O;obtain⟨UF,Sj⟩:∃A,A=U6 (F*wK k):=⟨_,rfl⟩;rw[<-Sj]at o4 o5;generalize R (d+2)=rr,((bE bs r1).1:Int)=M2,((bE bs r2).1:Int)=M3 at*;rcases TF with ⟨Tk,rfl⟩ | ⟨Tk,TV,SJ⟩
  ·have C:¬(1099511627776:Int)<((bE bs r).1:Int):=by omega
   rcases I with ⟨N,g⟩ | ⟨j,c',p',was,N,ix,lf,g⟩
   ·have D:(acc.length:Int)=0:=(by omega);have Sl:IntKind.i64.wrap 1=((acc.length+1:Nat):Int):=(by rw[N];rfl);rw[D]at SC ⊢;rw[g]at o4;clear g N D w1;generalize((bE bs r).1:Int)=M1,wK k=WW,((acc.length+1:Nat):Int)=N1,(q:Int)=CC at*;simp[wc,SC,an,q2,e1,C,o4,o5,e3,SQ,Th,Ti,Tj,e4,e5,e6,ez,U,T,V,X,y,z,x,hn,ld,nw,SD,Sl,bD]
   ·have Y:(0:Int)<(acc.length:Int):=(by omega);have w2:IntKind.i64.wrap ((acc.length:Int)-1)=((j:Nat):Int):=(by rw[aw _ (by omega) (by omega)];omega);have p1:ah .add (J6 ((bE bs r).1:Int)) (J6 1)=some (J6 (U6 (((bE bs r).1:Nat)+1))):=(by rw[cw]);have p2:=jY was.f;have p3:ah .quo (J6 (U6 was.f)) (J6 (wK k))=some (J6 (U6 was.f / wK k)):=uj (ot _).1 (ot _).2 hw.1 hw.2;have p4:ah .add (J6 (U6 (((bE bs r).1:Nat)+1))) (J6 (U6 was.f / wK k))=some (J6 F):=(by rw[cw,g]);clear g N Sj;generalize U6 (((bE bs r).1:Nat)+1)=Y1,U6 was.f / wK k=Y2 at*;generalize U6 was.f=Y3,((bE bs r).1:Int)=M1,wK k=WW,((acc.length+1:Nat):Int)=N1,(acc.length:Int)=N0,((j:Nat):Int)=J0,(q:Int)=CC at*;simp[wc,SC,an,q2,e1,C,Y,p1,w2,ix,lf,p2,p3,p4,o4,o5,e3,SQ,Th,Ti,Tj,e4,e5,e6,ez,U,T,V,X,y,z,x,hn,ld,nw,SD,w1,bD]
  ·have C:(1099511627776:Int)<((bE bs r).1:Int):=by omega
   rcases I with ⟨N,g⟩ | ⟨j,c',p',was,N,ix,lf,g⟩
   ·have D:(acc.length:Int)=0:=(by omega);have Sl:IntKind.i64.wrap 1=((acc.length+1:Nat):Int):=(by rw[N];rfl);rw[D]at SC ⊢;rw[g]at o4;clear g N D w1;generalize((bE bs r).1:Int)=M1,wK k=WW,((acc.length+1:Nat):Int)=N1,(q:Int)=CC at*;simp[wc,SC,an,q2,e1,C,SJ,o4,o5,e3,SQ,Th,Ti,Tj,e4,e5,e6,ez,U,T,V,X,y,z,x,hn,ld,nw,SD,Sl,bD]
   ·have Y:(0:Int)<(acc.length:Int):=(by omega);have w2:IntKind.i64.wrap ((acc.length:Int)-1)=((j:Nat):Int):=(by rw[aw _ (by omega) (by omega)];omega);have p1:ah .add (J6 ((bE bs r).1:Int)) (J6 1)=some (J6 (U6 (((bE bs r).1:Nat)+1))):=(by rw[cw]);have p2:=jY was.f;have p3:ah .quo (J6 (U6 was.f)) (J6 (wK k))=some (J6 (U6 was.f / wK k)):=uj (ot _).1 (ot _).2 hw.1 hw.2;have p4:ah .add (J6 (U6 (((bE bs r).1:Nat)+1))) (J6 (U6 was.f / wK k))=some (J6 F):=(by rw[cw,g]);clear g N Sj;generalize U6 (((bE bs r).1:Nat)+1)=Y1,U6 was.f / wK k=Y2 at*;generalize U6 was.f=Y3,((bE bs r).1:Int)=M1,wK k=WW,((acc.length+1:Nat):Int)=N1,(acc.length:Int)=N0,((j:Nat):Int)=J0,(q:Int)=CC at*;simp[wc,SC,an,q2,e1,C,SJ,Y,p1,w2,ix,lf,p2,p3,p4,o4,o5,e3,SQ,Th,Ti,Tj,e4,e5,e6,ez,U,T,V,X,y,z,x,hn,ld,nw,SD,w1,bD]
theorem OH(d:Nat)(O:1<=k)(T:k<=3)(h:GC 7 s p bs u r .av 0 [])(hl:bs.length<=8000) :
 ∃o lx,R (d+3) 148 [Z (.ptr p 0),J k] u=some (Z lx,o)/\GC 7 s p bs o (qg bs k r).2 lx (qg bs k r).1.length (cells cA (qg bs k r).1):=by
 obtain⟨u1,e1,G1,n1,k1⟩:=h.next d (by omega);obtain⟨D,C⟩:=aZ (qg bs k r);have hw:=kr k;have H:ba (Z (.ptr p 0))=some (Z (.ptr p 0)):=rfl;have cw:az .u64 (J (wK k))=some (J6 (wK k)):=by rw[jY];exact bw (λx=>some (J6 x)) (bH _ (by omega) (by omega))
 have loop:∀(cnt:Nat) (g:St) (F:Rr),cnt<=64->GC 7 s p bs g F .av 0 []->kA bs (wK k) cnt [] F=D →
  ∃o lx,loops (iK (R (d+2)) 8192) 8192 [Z (.ptr p 0),J6 (cnt:Nat),Z .av,J6 (wK k),J 0] g=some (.exit 0 [Z lx],o)/\GC 7 s p bs o D.2 lx D.1.length (cells cA D.1):=by
  intro cnt g F hc z X
  obtain⟨j,Sl,y,w,rfl,Q⟩:=aL (f:=iK (R (d+2)) 8192)
   (λq v u=>∃(lx:S) (acc:List e8) (r:Rr),acc.length+q=cnt/\v=[Z (.ptr p 0),J6 (cnt:Nat),Z lx,J6 (wK k),J acc.length]/\GC 7 s p bs u r lx acc.length (cells cA acc)/\kA bs (wK k) q acc r=D)
   (λj u=>∃lx,j = .exit 0 [Z lx]/\GC 7 s p bs u D.2 lx D.1.length (cells cA D.1)) (by
   rintro q v u ⟨lx,acc,r,hq,rfl,E,U⟩;have wc:az .i64 (J6 (cnt:Nat))=some (J cnt):=by rw[aY,fJ _ (by omega)]
   cases q with
   |zero=>
    right;have hk:acc.length=cnt:=(by omega);rw[<-U];refine⟨.exit 0 [Z lx],u,?_,(λv h=>by cases h),lx,rfl,E⟩;unfold iK;rw[hk];simp[wc]
   |succ q=>
    cases c:r.bad with
    |true=>
     right;have q2:aa (Z (.ptr p 2)) u.get=some (B true):=ag E.rd (by simp[c]);have Sk:(acc.length:Int)<(cnt:Int):=(by omega);have V:D=(acc,r):=(by rw[<-U,kA,af c]);rw[V];refine⟨.exit 0 [Z lx],u,?_,(λv h=>by cases h),lx,rfl,E⟩;unfold iK;simp[wc,Sk,H,q2,bD]
    |false=>
     left;obtain⟨o,w,r',a,e,G,Sj⟩:=Hh d O T E (by omega) c hq hc;have Y:(acc++[a]).length=acc.length+1:=(by simp);refine⟨_,o,q,e,by omega,w,acc++[a],r',by omega,by rw[Y],G,?_⟩;rw[<-U,kA,ae (by rw[c];simp),Sj])
   8192 cnt _ g ⟨.av,[],F,by simp,rfl,z,X⟩ (by omega)
  exact⟨Sl,w,y,Q⟩
 by_cases hn:64<(bE bs r).1
 ·have n:kI bs 64 r=(0,⟨(bE bs r).2.at_,true⟩):=by unfold kI;rw[af hn]
  obtain⟨g,e2,z⟩:=G1.err;have N:=mP (s:=g) (d+1) O T;have t:D=([],⟨(bE bs r).2.at_,true⟩):=by rw[C];unfold qg;rw[n];rfl
  rw[<-C,t];refine⟨g,.av,?_,z⟩;have I:(64:Int)<((bE bs r).1:Int):=by omega
  have q2:aa (Z (.ptr p 2)) g.get=some (B true):=ag z.rd rfl
  have y:loops (iK (R (d+2)) 8192) 8192 [Z (.ptr p 0),J6 ((bE bs r).1:Nat),Z .av,J6 (wK k),J 0] g=some (.exit 0 [Z .av],g):=by
   have:iK (R (d+2)) 8192 [Z (.ptr p 0),J6 ((bE bs r).1:Nat),Z .av,J6 (wK k),J 0] g=some (.exit 0 [Z .av],g):=by
    have cv:az .i64 (J6 ((bE bs r).1:Int))=some (J (W6 ((bE bs r).1:Nat))):=(by rw[aY]);unfold iK;generalize W6 ((bE bs r).1:Int)=WN at*;generalize((bE bs r).1:Int)=NN at*;by_cases hw:0<WN
    ·simp[cv,hw,H,q2,bD]
    ·simp[cv,hw,bD]
   rw[show 8192=(8192-1)+1 from rfl,loops];rw[show 8192=(8192-1)+1 from rfl]at this;rw[this]
  rw[Bc];unfold f148;generalize R (d+2)=rr,wK k=WW,((bE bs r).1:Int)=NN at*;simp[e1,I,H,e2,N,cw,y]
 ·have n:kI bs 64 r=bE bs r:=by unfold kI;rw[ae hn]
  have t:kA bs (wK k) (bE bs r).1 [] (bE bs r).2=D:=by rw[C];unfold qg;rw[n]
  obtain⟨o,lx,y,G⟩:=loop _ u1 _ (by omega) G1 t;have N:=mP (s:=u1) (d+1) O T;rw[<-C];have I:¬(64:Int)<((bE bs r).1:Int):=by omega
  refine⟨o,lx,?_,G⟩;rw[Bc];unfold f148;generalize R (d+2)=rr,wK k=WW,((bE bs r).1:Int)=NN at*;simp[e1,I,N,cw,y]
end
section
variable {s t u s0:St}{x y b lx bx:S}{l acc:List gq}{bs:Bs}{p:Nat}{r:Rr}{g:Sg}
theorem Lv(d:Nat)(Sk:s.wf)(h:nJ s x l)(F:∀c,own x=some c->c<s.size)(O:ug l=true)(hv:∀a∈l,I6 a.v):∃t,R (d+2) 72 [Z x] s=some (.c6 [.s (.str (b5 l)),.s (iz)],t)/\Gr s t:=by
 have n:=O;unfold ug at n;rw[aM]at n;have hl:l.length<=64:=cm n.2
 have ht:∀a∈l,I6 a.t/\0<=a.t/\I6 a.v:=λa S=>by
  have h1:=jq n.1 a S;have h2:=hv a S;unfold I6 at*;omega
 have e1:=Cj d h (by omega) n.1;have Sj:=h.lens;have V:¬64<(l.length:Int):=by omega
 have X:az .u64 (J (l.length:Int))=some (J6 (l.length:Int)):=by rw[aY,wrap64 _ (by omega)]
 obtain⟨s2,e2,g2⟩:=cn d Sk l.length (by omega)
 have D:∃g,qb l 0 0 g/\aq l.length++g=b5 l:=by
  cases l with
  |nil=>exact⟨[],.inl ⟨rfl,rfl,.inl ⟨rfl,rfl⟩⟩,by simp[b5]⟩
  |cons a r=>exact⟨hU a++gN 0 a r,.inl ⟨rfl,rfl,.inr ⟨a,r,rfl,rfl⟩⟩,by simp[b5]⟩
 obtain⟨g,G,o⟩:=D
 obtain⟨j,Sl,U,rfl,hF⟩:=aL (f:=rS (R (d+1)) 8192)
  (λq v u=>∃(k:Nat) (step:Int) (acc g:Bs),q+k=l.length/\v=[Z x,Z (.str acc),J step,J k]/\Gr s u/\qb l k step g/\acc++g=b5 l/\acc.length<=22*k+11)
  (λj u=>j = .exit 0 [Z (.str (b5 l))]/\Gr s u) (by
  rintro q v u ⟨k,step,acc,g,hq,rfl,E,G,o,H⟩;have T:=h.gr F E;by_cases hk:k<l.length
  ·left;obtain⟨u',y,z,w,e,I,Q,C,B⟩:=DC d E.wf T (λc hc=>bh (F c hc) E.2.1) G hk hl ht H;exact⟨_,u',q-1,e,by omega,k+1,y,z,w,by omega,rfl,E.trans I,Q,by rw[C,o],B⟩
  ·right;have N:k=l.length:=by omega
   subst N;have:=x4 G (au _);subst this;rw[lg]at o;subst o;have lu:=T.lens;refine⟨_,u,?_,(λv h=>by cases h),rfl,E⟩;unfold rS;simp[lu])
  8192 l.length _ s2 ⟨0,0,aq l.length,g,by omega,rfl,g2,G,o,by have:=aX l.length;omega⟩ (by omega)
 refine⟨Sl,?_,hF⟩;rw[ND];unfold f72;have Y:((0:Nat):Int)=0:=rfl;rw[Y]at U;generalize R (d+1)=rr at*;simp[e1,Sj,V,X,e2,U,aD,a8,bD]
end
section
variable {s t u s0:St}{x y z b lx bx:S}{l acc:List gq}{bs:Bs}{p:Nat}{r:Rr}{g:Sq}
theorem Ci(d:Nat)(h:nJ s x l)(hl:l.length<=8000):R (d+1) 112 [Z x] s=some (B (cx (-1) l),s):=by
 have z:=h.lens
 obtain⟨j,Sl,O,hj,rfl⟩:=aL (f:=iI (R d) 8192)
  (λq v u=>∃(k:Nat) (last:Int),q+k=l.length/\v=[Z x,J k]/\u=s/\cx last (l.drop k)=cx (-1) l ∧ -1<=last/\((k=0/\last = -1)\/∃j w,k=j+1/\l[j]? = some w/\last=w.t))
  (λj u=>((j = .exit 0 []/\cx (-1) l=true)\/(j = .ret (B false)/\cx (-1) l=false))/\u=s) (by
  rintro q v u ⟨k,last,hq,rfl,rfl,e,Sk,o⟩;by_cases X:k<l.length
  ·obtain⟨a,V⟩:=aZ (l[k]);have g:l[k]? = some a:=by rw[aU X,V]
   rw[cU X,<-V,show cx last (a::l.drop (k+1))=(decide (last<a.t)&&decide (a.t<=1099511627776)&&cx a.t (l.drop (k+1))) from rfl]at e;obtain⟨c,p,y,_,lt,_⟩:=nJ.CK h (n:=(k:Int)) rfl g;have r:(k:Int)<(l.length:Int):=by omega
   have w1:IntKind.i64.wrap ((k:Int)+1)=((k+1:Nat):Int):=by rw[aw _ (by omega) (by omega)];omega
   by_cases D:a.t<0
   ·right;refine⟨.ret (B false),u,?_,(λv h=>by cases h),.inr ⟨rfl,by rw[<-e,aR (show ¬last<a.t by omega)];rfl⟩,rfl⟩;unfold iI;generalize(k:Int)=H,(l.length:Int)=C at*;simp[z,r,y,lt,D,bD]
   by_cases G:1099511627776<a.t
   ·right;refine⟨.ret (B false),u,?_,(λv h=>by cases h),.inr ⟨rfl,by rw[<-e,aR (show ¬a.t<=1099511627776 by omega),oy];rfl⟩,rfl⟩;unfold iI;generalize(k:Int)=H,(l.length:Int)=C at*;simp[z,r,y,lt,D,G,bD]
   rcases o with ⟨rfl,rfl⟩ | ⟨j,w,rfl,I,rfl⟩
   ·left;refine⟨[Z x,J ((0+1:Nat):Int)],u,q-1,?_,by omega,0+1,a.t,by omega,rfl,rfl,?_,by omega,.inr ⟨0,a,rfl,g,rfl⟩⟩
    ·unfold iI;have k0:((0:Nat):Int)=0:=rfl;rw[k0]at y r;have Q:IntKind.i64.wrap 1=((0+1:Nat):Int):=rfl;generalize((0+1:Nat):Int)=S,(l.length:Int)=C at*;simp[z,r,y,lt,D,G,Q,bD]
    ·rw[<-e,aK (show(-1:Int)<a.t by omega),aK (show a.t<=1099511627776 by omega)];rfl
   ·obtain⟨c',p',E,_,F,_⟩:=nJ.CK h (n:=((j:Nat):Int)) rfl I;have Y:IntKind.i64.wrap (((j+1:Nat):Int)-1)=((j:Nat):Int):=(by rw[aw _ (by omega) (by omega)];omega);have T:0<((j+1:Nat):Int):=(by omega);by_cases U:a.t<=w.t
    ·right;refine⟨.ret (B false),u,?_,(λv h=>by cases h),.inr ⟨rfl,by rw[<-e,aR (show ¬w.t<a.t by omega)];rfl⟩,rfl⟩;unfold iI;generalize((j+1:Nat):Int)=S,((j:Nat):Int)=H,(l.length:Int)=C at*;simp[z,r,y,lt,D,G,T,Y,E,F,U,bD]
    ·left;refine⟨[Z x,J ((j+1+1:Nat):Int)],u,q-1,?_,by omega,j+1+1,a.t,by omega,rfl,rfl,?_,by omega,.inr ⟨j+1,a,rfl,g,rfl⟩⟩
     ·unfold iI;generalize((j+1+1:Nat):Int)=K2,((j+1:Nat):Int)=S,((j:Nat):Int)=H,(l.length:Int)=C at*;simp[z,r,y,lt,D,G,T,Y,E,F,U,w1,bD]
     ·rw[<-e,aK (show w.t<a.t by omega),aK (show a.t<=1099511627776 by omega)];rfl
  ·right;have N:k=l.length:=by omega
   subst N;rw[e7]at e;refine⟨.exit 0 [],u,?_,(λv h=>by cases h),.inl ⟨rfl,e.symm⟩,rfl⟩;unfold iI;generalize(l.length:Int)=C at*;simp[z])
  8192 l.length _ s ⟨0,-1,by omega,rfl,rfl,by simp,by omega,.inl ⟨rfl,rfl⟩⟩ (by omega)
 rw[A7];unfold f112;have Sj:((0:Nat):Int)=0:=rfl;rw[Sj]at O;rcases hj with ⟨rfl,e⟩ | ⟨rfl,e⟩
 ·rw[e];simp[O]
 ·rw[e];simp[O]
structure Ps(g:Sq):Prop where
 i0:0<=g.i
 i1:g.i<=1073741824
 t0:0<=g.t
 t4:g.t<4
 f0:0<=g.f
 o1:g.o<=2199023255552
 la:g.t=0->g.a=[]
 ll:g.t≠0->g.l=[]
 Si:g.l.length<=64
 a64:g.a.length<=64
theorem Hz(d:Nat)(SH:s.wf)(hP:Ps g)(hx:nJ s x g.l)(Ss:∀c,own x=some c->c<s.size)(hz:RA s z g.a)(Su:∀c,own z=some c->c<s.size) :
 ∃t,R (d+4) 70 [AQ g x z] s=some (B (gL g),t)/\Gr s t:=by
 obtain⟨SI,SE,SF,SG,SC,SJ,Sz,SA,SB,Sx⟩:=hP;obtain⟨s1,Sm⟩:=aZ (s.push (.K true (cQ g x z)));have E:aE s (b6 (AQ g x z))=some (Z (.ptr s.size 0),s1):=by rw[Sm];rfl
 have y:Gr s s1:=by rw[Sm];exact Gr.push SH _
 have b1:s1.get s.size=some (.K true (cQ g x z)):=by rw[Sm];exact St.ec
 have F:aa (Z (.ptr s.size 0)) s1.get=some (J g.i):=ag b1 rfl;have r:aa (Z (.ptr s.size 1)) s1.get=some (J g.t):=ag b1 rfl;have I:aa (Z (.ptr s.size 2)) s1.get=some (J g.f):=ag b1 rfl;have N:aa (Z (.ptr s.size 3)) s1.get=some (J g.o):=ag b1 rfl;have Y:aa (Z (.ptr s.size 4)) s1.get=some (Z x):=ag b1 rfl;have q5:aa (Z (.ptr s.size 5)) s1.get=some (Z z):=ag b1 rfl;have T:=hx.gr Ss y;have Sn:=hz.gr Su y;have lx:=T.lens;have U:=Sn.lens;have SD:∀c,own x=some c->c<s1.size:=λc hc=>bh (Ss c hc) y.2.1
 have X:∀c,own z=some c->c<s1.size:=λc hc=>bh (Su c hc) y.2.1
 have n2:¬1073741824<g.i:=by omega
 have n3:¬g.t<0:=by omega
 have n4:¬3<g.t:=by omega
 have H:¬g.f<0:=by omega
 rw[NB];unfold f70 gL;by_cases hh:1<=g.i/\g.f<g.o/\g.o<=1099511627776
 rotate_left
 ·have Sy:xw g=false:=aR λh=>hh ⟨h.1,h.2.2.2.2.2.1,h.2.2.2.2.2.2⟩
  rw[Sy];refine⟨s1,?_,y⟩;generalize R (d+3)=rr,s.size=ss at*;by_cases q:g.i<1
  ·simp[E,F,q,bD]
  by_cases C:g.o<=g.f
  ·simp[E,F,r,I,N,q,n2,n3,n4,H,C,bD]
  have G:1099511627776<g.o:=by omega
  simp[E,F,r,I,N,q,n2,n3,n4,H,C,G,bD]
 have Sy:xw g=true:=aK ⟨hh.1,SE,SF,SG,SC,hh.2.1,hh.2.2⟩;have q:¬g.i<1:=by omega
 have C:¬g.o<=g.f:=by omega
 have G:¬1099511627776<g.o:=by omega
 rw[Sy];by_cases ht:g.t=0
 ·rw[af ht,dX];have ha:=Sz ht;rw[ht]at r;have Sk:(g.a.length:Int)=0:=by rw[ha];rfl
  rw[aK ha,dX];rw[Sk]at U;by_cases h9:1<=g.l.length
  rotate_left
  ·have Sl:g.l=[]:=cJ (by omega);have V:qo g=false:=by unfold qo;rw[Sl];rfl
   have u:¬(1:Int)<=(g.l.length:Int):=by omega
   rw[V,oy];refine⟨s1,?_,y⟩;generalize R (d+3)=rr,s.size=ss,(g.l.length:Int)=LL at*;simp[E,F,r,I,N,q,n2,H,C,G,Y,q5,lx,U,u,bD]
  have u:(1:Int)<=(g.l.length:Int):=by omega
  have Sj:(g.l.length:Int)<=64:=by omega
  have Q:ug g.l=cx (-1) g.l:=by unfold ug;rw[dw SB,np]
  rw[Q];have e:=Ci (d+2) T (by omega);obtain⟨a,D⟩:∃a,g.l[0]? = some a:=⟨_,aU (by omega)⟩;obtain⟨w,hw⟩:∃w,g.l[g.l.length-1]? = some w:=⟨_,aU (by omega)⟩;obtain⟨ca,pa,ia,_,Sw,_⟩:=nJ.CK T (n:=0) (j:=0) rfl D;obtain⟨cz,pz,iz,_,lw,_⟩:=nJ.CK T (n:=(g.l.length:Int)-1) (j:=g.l.length-1) (by omega) hw;have w1:IntKind.i64.wrap ((g.l.length:Int)-1)=(g.l.length:Int)-1:=aw _ (by omega) (by omega)
  have V:qo g=(decide (g.f<=a.t)&&decide (w.t<g.o)):=by
   unfold qo;rw[uz,D,mZ,hw]
  rw[V];refine⟨s1,?_,y⟩;simp only[aH,Nat.reduceAdd]at e;generalize R (d+3)=rr,s.size=ss,(g.l.length:Int)=LL at*;cases hr:cx (-1) g.l with
  |false=>
   rw[hr]at e;simp[E,F,r,I,N,q,n2,H,C,G,Y,q5,lx,U,u,Sj,e,bD]
  |true=>
   rw[hr]at e;by_cases k1:g.f<=a.t
   ·simp[E,F,r,I,N,q,n2,H,C,G,Y,q5,lx,U,u,Sj,e,ia,Sw,k1,w1,iz,lw,bD]
   ·simp[E,F,r,I,N,q,n2,H,C,G,Y,q5,lx,U,u,Sj,e,ia,Sw,k1,bD]
 ·rw[ae ht,dX];have ha:=SA ht;obtain⟨k,hk⟩:∃k:Nat,g.t=(k:Int):=⟨g.t.toNat,by omega⟩;have O:g.t.toNat=k:=by omega
  rw[O];rw[hk]at r ht n3 n4;have Sp:1<=k:=by omega
  have Sr:k<=3:=by omega
  have S:¬(k:Int)=0:=ht;have Sk:(g.l.length:Int)=0:=by rw[ha];rfl
  rw[aK ha,dX];rw[Sk]at lx;by_cases h9:1<=g.a.length
  rotate_left
  ·have Sl:g.a=[]:=cJ (by omega);have V:qn g=false:=by unfold qn;rw[Sl];rfl
   have u:¬(1:Int)<=(g.a.length:Int):=by omega
   rw[V,oy];refine⟨s1,?_,y⟩;clear hk O;generalize R (d+3)=rr,s.size=ss,(k:Int)=KK,(g.a.length:Int)=LL at*;simp[E,F,r,I,N,q,n2,n3,n4,H,C,G,S,Y,q5,lx,U,u,wq,bD]
  have u:(1:Int)<=(g.a.length:Int):=by omega
  have Sj:(g.a.length:Int)<=64:=by omega
  have Q:vG (wK k) g.a=bW (wK k) (-1) g.a:=by unfold vG;rw[dw Sx,np]
  rw[Q];obtain⟨s3,e,g3⟩:=qX d y.wf Sp Sr Sn X (by omega);have b3:=g3.get b1 y.wf;have p1:aa (Z (.ptr s.size 1)) s3.get=some (J k):=by rw[<-hk];exact ag b3 rfl
  have p2:aa (Z (.ptr s.size 2)) s3.get=some (J g.f):=ag b3 rfl;have p3:aa (Z (.ptr s.size 3)) s3.get=some (J g.o):=ag b3 rfl;have p5:aa (Z (.ptr s.size 5)) s3.get=some (Z z):=ag b3 rfl;have Sv:=Sn.gr X g3;have e4:=vW (s:=s3) (d+1) Sp Sr SC (by omega);obtain⟨a,D⟩:∃a,g.a[0]? = some a:=⟨_,aU (by omega)⟩;obtain⟨w,hw⟩:∃w,g.a[g.a.length-1]? = some w:=⟨_,aU (by omega)⟩;obtain⟨ca,pa,ia,_,Sw⟩:=RA.Gf Sv (n:=0) (j:=0) rfl D;obtain⟨cz,pz,iz,_,lw⟩:=RA.Gf Sv (n:=(g.a.length:Int)-1) (j:=g.a.length-1) (by omega) hw;have w1:IntKind.i64.wrap ((g.a.length:Int)-1)=(g.a.length:Int)-1:=aw _ (by omega) (by omega)
  have V:qn g=(decide (g.f-g.f%wK k<=a.f)&&decide (w.f<g.o)):=by
   unfold qn;rw[uz,D,mZ,hw,O]
  rw[V];refine⟨s3,?_,y.trans g3⟩;simp only[aH,Nat.reduceAdd]at e e4;clear hk O V Q;generalize R (d+3)=rr,s.size=ss,(k:Int)=KK,g.f-g.f%wK k=FL,(g.a.length:Int)=LL at*;cases hr:bW (wK k) (-1) g.a with
  |false=>
   rw[hr]at e;simp[E,F,r,I,N,q,n2,n3,n4,H,C,G,S,Y,q5,lx,U,u,Sj,e,wq,bD]
  |true=>
   rw[hr]at e;by_cases k1:FL<=a.f
   ·simp[E,F,r,I,N,q,n2,n3,n4,H,C,G,S,Y,q5,lx,U,u,Sj,e,p5,ia,Sw,p2,p1,e4,k1,w1,iz,lw,p3,wq,bD]
   ·simp[E,F,r,I,N,q,n2,n3,n4,H,C,G,S,Y,q5,lx,U,u,Sj,e,p5,ia,Sw,p2,p1,e4,k1,wq,bD]
end
section
variable {s t u s0:St}{x y z b bx lx:S}{l:List e8}{bs acc:Bs}{k V p:Nat}{r:Rr}{g:Sq}
theorem DB(d:Nat)(Sl:s.wf)(N:1<=k)(O:k<=3)(h:RA s x l)(m:∀c,own x=some c->c<s.size)(I:vG (wK k) l=true)(hi:∀a∈l,IA a) :
 ∃t,R (d+4) 73 [Z x,J k] s=some (.c6 [.s (.str (dJ (wK k) l)),.s (iz)],t)/\Gr s t:=by
 have b:=I;unfold vG at b;rw[aM]at b;have hl:l.length<=64:=cm b.2;have hw:=kr k;obtain⟨s1,K,M⟩:=qX d Sl N O h m (by omega);rw[b.1]at K;have Sk:=h.lens;have Q:¬64<(l.length:Int):=by omega
 have S:az .u64 (J (l.length:Int))=some (J6 (l.length:Int)):=by rw[aY,wrap64 _ (by omega)]
 obtain⟨s2,L,V⟩:=cn (d+2) M.wf l.length (by omega)
 obtain⟨j,Sm,P,rfl,W⟩:=aL (f:=nQ (R (d+3)) 8192)
  (λq v u=>∃(i:Nat) (last lastF:Int) (acc:Bs),q+i=l.length/\v=[Z x,J k,Z (.str acc),J i]/\Gr s u/\bW (wK k) lastF (l.drop i)=true/\((i=0/\last = -1)\/∃j w,i=j+1/\l[j]? = some w/\last=w.f / wK k/\0<=w.f/\w.f<=1099511627776) ∧
   (∀a,l[i]? = some a->last<a.f / wK k)/\acc++eW (wK k) last (l.drop i)=dJ (wK k) l/\acc.length<=77*i+11)
  (λj u=>j = .exit 0 [Z (.str (dJ (wK k) l))]/\Gr s u) (by
  rintro q v u ⟨i,last,lastF,acc,hq,rfl,y,D,r,B,g,z⟩;by_cases G:i<l.length
  ·left;obtain⟨u',a,p,e,U,n,Sj,Y⟩:=B4 (d+1) N O y.wf (h.gr m y) (λc E=>bh (m c E) y.2.1) G hl hi D r B z;have o:=(dF Sj).1;refine⟨_,u',q-1,e,by omega,i+1,a.f / wK k,a.f,_,by omega,rfl,y.trans U,n,.inr ⟨i,a,rfl,p,rfl,o.2.2.1,o.2.2.2⟩,λc E => ?_,?_,?_⟩
   ·have C:=mm (a:=c) n (by rw[nu];simpa using E);exact CX hw.1 Y C.2.1 C.2.2
   ·have F:l.drop i=a::l.drop (i+1):=by
     rw[aU G]at p;rw[cU G,dQ p]
    rw[F]at g;rw[<-g];simp[eW,bg]
   ·have:=rK a (a.f / wK k-last-1);rw[aI];omega
  ·right;have H:i=l.length:=by omega
   subst H;rw[e7]at g;have A:acc=dJ (wK k) l:=by simpa[eW]using g
   subst A;have lu:=(h.gr m y).lens;refine⟨_,u,?_,(λv h=>by cases h),rfl,y⟩;unfold nQ;simp[lu])
  8192 l.length _ s2 ⟨0,-1,-1,aq l.length,by omega,rfl,M.trans V,by rw[ek];exact b.1,.inl ⟨rfl,rfl⟩,λa X=>by
   have C:=mm b.1 X;have:=gG ((dF C.1).1.2.2.1) (show 0<=wK k by omega);omega,by rw[ek];rfl,by have:=aX l.length;omega⟩ (by omega)
 refine⟨Sm,?_,W⟩;rw[NF];unfold f73;have T:((0:Nat):Int)=0:=rfl;rw[T]at P;simp only[aH,Nat.reduceAdd]at L;generalize R (d+3)=rr at*;simp[K,Sk,Q,S,L,P,aD,a8,bD]
def vV(g:Sq):T:=if gL g=true then(if(dz g).length<=4000 then .c6 [.s (.str (dz g)),.s (iz)]else .c6 [.s (.str []),.s (.int .i64 8)])else .c6 [.s (.str []),.s (.int .i64 1)]
theorem Hk(d:Nat)(j:s.wf)(b:gL g=true)(hi:IQ g)(m:nJ s x g.l)(h:∀c,own x=some c->c<s.size)(n:RA s z g.a)(i:∀c,own z=some c->c<s.size) :
 (g.t=0->∃t,R (d+4) 72 [Z x] s=some (.c6 [.s (.str (iE g)),.s (iz)],t)/\Gr s t)/\(¬g.t=0->∃t,R (d+4) 73 [Z z,J g.t] s=some (.c6 [.s (.str (iE g)),.s (iz)],t)/\Gr s t):=by
 obtain⟨o,p,q,r,u,v,w⟩:=iu b;unfold gL at b;rw[aM]at b;refine⟨λf => ?_,λf => ?_⟩
 ·rw[af f,aM,aM]at b;unfold iE;rw[af f];exact Lv (d+2) j m h b.2.1.2 hi.l
 ·rw[ae f,aM,aM]at b;unfold iE;rw[ae f];have e:g.t=(g.t.toNat:Int):=by omega
  have:=DB d j (k:=g.t.toNat) (by omega) (by omega) n i b.2.1.2 hi.a
  rwa [<-e]at this
theorem HH(d:Nat)(SN:s.wf)(hP:Ps g)(hi:IQ g)(hx:nJ s x g.l)(Sp:∀c,own x=some c->c<s.size)(hz:RA s z g.a)(Sr:∀c,own z=some c->c<s.size):∃t,R (d+5) 20 [AQ g x z] s=some (vV g,t)/\Gr s t:=by
 obtain⟨s1,Sj⟩:=aZ (s.push (.K true (cQ g x z)));have nw:aE s (b6 (AQ g x z))=some (Z (.ptr s.size 0),s1):=by rw[Sj];rfl
 have S:Gr s s1:=by rw[Sj];exact Gr.push SN _
 have b1:s1.get s.size=some (.K true (cQ g x z)):=by rw[Sj];exact St.ec
 have q6:=j8 (m:=s1.get) b1;have Ss:=hx.gr Sp S;have Su:=hz.gr Sr S;have r:∀c,own x=some c->c<s1.size:=λc hc=>bh (Sp c hc) S.2.1
 have u:∀c,own z=some c->c<s1.size:=λc hc=>bh (Sr c hc) S.2.1
 obtain⟨s2,V,g2⟩:=Hz d S.wf hP Ss r Su u;rw[M4];unfold f20 vV;cases Sn:gL g with
 |false=>
  rw[Sn]at V;refine⟨s2,?_,S.trans g2⟩;generalize R (d+4)=rr at*;simp[nw,q6,V,aD,a8]
 |true=>
 rw[Sn]at V;rw[af rfl];have b2:=g2.get b1 S.wf;obtain⟨h1,h2,h3,h4,h5,h6,h7⟩:=iu Sn;have SA:=gQ (a:=g.i) (by omega) (by omega);have SC:=gQ (a:=g.t) (by omega) (by omega);have SD:=gQ (a:=g.f) (by omega) (by omega);have c3:=gQ (a:=g.o-g.f) (by omega) (by omega);have w3:IntKind.i64.wrap (g.o-g.f)=g.o-g.f:=aw _ (by omega) (by omega);have vl:∀n,(aq n).length<=11:=aX;have v0:=vl g.i.toNat;have v1:=vl g.t.toNat;have v2:=vl g.f.toNat;have v3:=vl (g.o-g.f).toNat;obtain⟨s4,e4,g4⟩:=cn (d+3) g2.wf g.i.toNat (by omega);obtain⟨s5,e5,g5⟩:=cn (d+3) g4.wf g.t.toNat (by omega);obtain⟨s6,e6,g6⟩:=cn (d+3) g5.wf g.f.toNat (by omega);obtain⟨s7,e7,g7⟩:=cn (d+3) g6.wf (g.o-g.f).toNat (by omega);have b4:=g4.get b2 g2.wf;have b5:=g5.get b4 g4.wf;have SJ:=g6.get b5 g5.wf;have SK:=g7.get SJ g6.wf;have q0:aa (Z (.ptr s.size 0)) s2.get=some (J g.i):=ag b2 rfl;have y:aa (Z (.ptr s.size 1)) s2.get=some (J g.t):=ag b2 rfl;have D:aa (Z (.ptr s.size 1)) s4.get=some (J g.t):=ag b4 rfl;have B:aa (Z (.ptr s.size 2)) s2.get=some (J g.f):=ag b2 rfl;have E:aa (Z (.ptr s.size 2)) s4.get=some (J g.f):=ag b4 rfl;have G:aa (Z (.ptr s.size 2)) s5.get=some (J g.f):=ag b5 rfl;have N:aa (Z (.ptr s.size 2)) s6.get=some (J g.f):=ag SJ rfl;have C:aa (Z (.ptr s.size 3)) s2.get=some (J g.o):=ag b2 rfl;have F:aa (Z (.ptr s.size 3)) s4.get=some (J g.o):=ag b4 rfl;have H:aa (Z (.ptr s.size 3)) s5.get=some (J g.o):=ag b5 rfl;have O:aa (Z (.ptr s.size 3)) s6.get=some (J g.o):=ag SJ rfl;have Q:aa (Z (.ptr s.size 1)) s7.get=some (J g.t):=ag SK rfl;have Sw:aa (Z (.ptr s.size 4)) s7.get=some (Z x):=ag SK rfl;have Sx:aa (Z (.ptr s.size 5)) s7.get=some (Z z):=ag SK rfl;have a0:=b7 [84,75] (aq g.i.toNat) (by simp;omega);have Sy:=b7 ([84,75]++aq g.i.toNat) (aq g.t.toNat) (by simp;omega);have Sz:=b7 (([84,75]++aq g.i.toNat)++aq g.t.toNat) (aq g.f.toNat) (by simp;omega);have Sk:=b7 ((([84,75]++aq g.i.toNat)++aq g.t.toNat)++aq g.f.toNat) (aq (g.o-g.f).toNat) (by simp;omega);have hh:((([84,75]++aq g.i.toNat)++aq g.t.toNat)++aq g.f.toNat)++aq (g.o-g.f).toNat=mE g:=by simp[mE,iv,ef,bg]
 rw[hh]at Sk;have q:=(((g2.trans g4).trans g5).trans g6).trans g7;obtain⟨B0,B1⟩:=Hk d g7.wf Sn hi (Ss.gr r q) (λc hc=>by have:=r c hc;have:=q.2.1;omega) (Su.gr u q) (λc hc=>by have:=u c hc;have:=q.2.1;omega);have Y:=xh Sn;have Sm:(mE g).length+(iE g).length<=5000:=by unfold bP at Y;rwa [aI]at Y
 have a4:=b7 (mE g) (iE g) (by omega);rw[show mE g++iE g=bP g from rfl]at a4;have SM:(four (cB 1 (bP g))).length=4:=rfl;have a5:=b7 (bP g) (four (cB 1 (bP g))) (by omega);rw[show bP g++four (cB 1 (bP g))=dz g from rfl]at a5;have ls:aV (Z (.str (dz g)))=some (J (dz g).length):=rfl
 have Sl:∀(h:St),Gr s7 h->∃uo,R (d+4) 75 [Z (.str (bP g))] h=some (I .u32 (cB 1 (bP g):Nat),h)/\R (d+4) 74 [I .u32 (cB 1 (bP g):Nat)] h=some (Z (.str (four (cB 1 (bP g)))),uo)/\Gr s uo:=λh U=>by
  have e9:=wg (s:=h) (d+2) (bs:=bP g) (by omega);obtain⟨uo,j,X⟩:=Bo (d+3) U.wf (cB 1 (bP g));exact⟨uo,e9,j,(S.trans q).trans (U.trans X)⟩
 have Sv:∀(P:T),(∃h,((g.t=0/\R (d+4) 72 [Z x] s7=some (.c6 [.s (.str (iE g)),.s (iz)],h))\/(¬g.t=0/\R (d+4) 73 [Z z,J g.t] s7=some (.c6 [.s (.str (iE g)),.s (iz)],h)))/\Gr s7 h):=λP=>by
  by_cases k:g.t=0
  ·obtain⟨h,e,U⟩:=B0 k;exact⟨h,.inl ⟨k,e⟩,U⟩
  ·obtain⟨h,e,U⟩:=B1 k;exact⟨h,.inr ⟨k,e⟩,U⟩
 obtain⟨h,w,U⟩:=Sv tt;obtain⟨uo,e9,j,X⟩:=Sl h U;refine⟨uo,?_,X⟩;clear Y Sm SM hh v0 v1 v2 v3 vl h1 h2 h3 h4 h5 h6 h7 B0 B1 Sl Sv hi hP;by_cases SE:(dz g).length<=4000
 ·rw[af SE];have cF:¬4000<((dz g).length:Int):=by omega
  clear SE;generalize R (d+4)=rr,s.size=ss,((dz g).length:Int)=SL at*;generalize dz g=SI,four (cB 1 (bP g))=F4,((cB 1 (bP g):Nat):Int)=SB at*;generalize bP g=SF,mE g=SH,iE g=SG,(([84,75]++aq g.i.toNat)++aq g.t.toNat)++aq g.f.toNat=X3 at*;generalize([84,75]++aq g.i.toNat)++aq g.t.toNat=X2 at*;generalize [84,75]++aq g.i.toNat=X1 at*;generalize aq g.i.toNat=V0,aq g.t.toNat=V1,aq g.f.toNat=V2,aq (g.o-g.f).toNat=V3,(g.i.toNat:Int)=n0,(g.t.toNat:Int)=nz,(g.f.toNat:Int)=n2,((g.o-g.f).toNat:Int)=n3 at*;generalize g.t=GT at*;rcases w with ⟨k,w⟩ | ⟨k,w⟩
  ·subst k;simp[nw,q6,V,q0,SA,e4,a0,y,D,SC,e5,Sy,B,E,G,SD,e6,Sz,C,F,H,O,N,w3,c3,e7,Sk,Q,Sw,w,ai,a4,e9,j,a5,ls,cF,aD,a8]
  ·simp[nw,q6,V,q0,SA,e4,a0,y,D,SC,e5,Sy,B,E,G,SD,e6,Sz,C,F,H,O,N,w3,c3,e7,Sk,Q,k,Sx,w,ai,a4,e9,j,a5,ls,cF,aD,a8]
 ·rw[ae SE];have cF:4000<((dz g).length:Int):=by omega
  clear SE;generalize R (d+4)=rr,s.size=ss,((dz g).length:Int)=SL at*;generalize dz g=SI,four (cB 1 (bP g))=F4,((cB 1 (bP g):Nat):Int)=SB at*;generalize bP g=SF,mE g=SH,iE g=SG,(([84,75]++aq g.i.toNat)++aq g.t.toNat)++aq g.f.toNat=X3 at*;generalize([84,75]++aq g.i.toNat)++aq g.t.toNat=X2 at*;generalize [84,75]++aq g.i.toNat=X1 at*;generalize aq g.i.toNat=V0,aq g.t.toNat=V1,aq g.f.toNat=V2,aq (g.o-g.f).toNat=V3,(g.i.toNat:Int)=n0,(g.t.toNat:Int)=nz,(g.f.toNat:Int)=n2,((g.o-g.f).toNat:Int)=n3 at*;generalize g.t=GT at*;rcases w with ⟨k,w⟩ | ⟨k,w⟩
  ·subst k;simp[nw,q6,V,q0,SA,e4,a0,y,D,SC,e5,Sy,B,E,G,SD,e6,Sz,C,F,H,O,N,w3,c3,e7,Sk,Q,Sw,w,ai,a4,e9,j,a5,ls,cF,aD,a8]
  ·simp[nw,q6,V,q0,SA,e4,a0,y,D,SC,e5,Sy,B,E,G,SD,e6,Sz,C,F,H,O,N,w3,c3,e7,Sk,Q,k,Sx,w,ai,a4,e9,j,a5,ls,cF,aD,a8]
end
theorem NX{bs:Bs}{g:Sq}(h:dS bs=some g):IQ g:=by
 unfold dS at h;split at h
 ·cases h
 ·split at h
  ·cases h
  ·rename_i ns at_ _;split at h
   ·cases h
   ·rename_i e b;split at h
    ·cases h;unfold Mz at b;split at b
     ·split at b
      ·obtain⟨l,c,rfl⟩:=o6.1 b;exact⟨(EU c).2,λx d=>by cases d⟩
      ·split at b
       ·obtain⟨a,c,rfl⟩:=o6.1 b;exact⟨λx d=>(by cases d),(ET c).2⟩
       ·cases b
     ·cases b
    ·cases h
theorem vr{bs:Bs}{g:Sq}(h:dS bs=some g):Qr (bs.take (bs.length-4))=true/\(∃e,oe (bs.take (bs.length-4))=(g,⟨e,false⟩))/\6<=bs.length/\bs.take 2=[84,75]:=by
 obtain⟨i,j,k⟩:=qH h;have hi:=NX h
 have d:bs.take (bs.length-4)=bP g:=by
  rw[<-j];have:(dz g).length=(bP g).length+4:=by simp[dz,four]
  rw[this,jC];unfold dz;rw[rB]
 rw[d];obtain⟨a,b⟩:=LB i hi;refine⟨a,b,?_,?_⟩
 ·unfold dS at h;by_cases c:bs.length<6\/bs.take 2≠[84,75]
  ·rw[af c]at h;cases h
  ·omega
 ·unfold dS at h;by_cases c:bs.length<6\/bs.take 2≠[84,75]
  ·rw[af c]at h;cases h
  ·exact Decidable.byContradiction λf=>c (.inr f)
theorem LA{b:Bs}(h:Qr b=true):Ps (oe b).1:=by
 have a:=fL (show decide _=true from h);obtain⟨f,g,i,j⟩:=a
 have k:(kI b 64 (nC b 3).2).1<=64:=by
  unfold kI;split
  ·exact cc _
  ·omega
 have d:=uX b (kI b 64 (nC b 3).2).1 [] 0 (kI b 64 (nC b 3).2).2;have c:=xj b (wK (nC b 1).1) (kI b 64 (nC b 3).2).1 [] (kI b 64 (nC b 3).2).2;rw[dO]at d c;unfold oe;split
 ·exact⟨by dsimp only;omega,by dsimp only;omega,by dsimp only;omega,by dsimp only;omega,by dsimp only;omega,by dsimp only;omega,λ_=>rfl,λh=>absurd rfl h,by dsimp only[qi];omega,by simp⟩
 ·rename_i e;exact⟨by dsimp only;omega,by dsimp only;omega,by dsimp only;omega,by dsimp only;omega,by dsimp only;omega,by dsimp only;omega,λh=>by dsimp only at h;omega,λ_=>rfl,by simp,by dsimp only[qg];omega⟩
section
variable {s t u s0:St}{x y z b bx lx:S}{bs:Bs}{k V p e:Nat}{r:Rr}{g:Sq}
theorem GC.base(h:GC e s p bs u r .av 0 [])(a:Nat):GC a u p bs u r .av 0 []:=
 ⟨h.rd,h.at_,⟨h.bt.1,au _,λ_ _ _=>rfl⟩,Ow.nil a u,λc b=>(by cases b),h.bt.1.lt h.rd⟩
theorem NY{bs:Bs}{S:Bs}{c:Int}(u:Qr (bs.take (bs.length-4))=true)(h:vV (oe (bs.take (bs.length-4))).1 = .c6 [.s (.str S),.s (.int .i64 c)]) :
 dS bs=if(oe (bs.take (bs.length-4))).2.bad=false/\c=0/\S=bs then some (oe (bs.take (bs.length-4))).1 else none:=by
 have hi:=Fc (bs.take (bs.length-4));cases o:dS bs with
 |some g=>
  obtain⟨_,⟨e,r⟩,_⟩:=vr o;obtain⟨n,q,k⟩:=qH o;rw[r]at h ⊢;unfold vV at h;rw[af n,af (by rw[q];exact k)]at h
  injection h with h
  injection h with j d
  injection j with j
  injection j with j
  injection d with d
  injection d with d
  injection d with _ d
  rw[af ⟨rfl,d.symm,by rw[<-j,q]⟩]
 |none=>
  rw[ae];rintro⟨t,rfl,rfl⟩;unfold vV at h;split at h
  ·rename_i n;split at h
   ·rename_i k
    injection h with h
    injection h with j d
    injection j with j
    injection j with j
    have:=Kl n hi k;rw[j,o]at this;cases this
   ·injection h with h
    injection h with j d
    injection d with d
    injection d with d
    injection d with _ d
    cases d
  ·injection h with h
   injection h with j d
   injection d with d
   injection d with d
   injection d with _ d
   cases d
theorem Hs(g:Sq):∃(S:Bs) (c:Int),vV g = .c6 [.s (.str S),.s (.int .i64 c)]:=by
 unfold vV;split
 ·split
  ·exact⟨_,_,rfl⟩
  ·exact⟨_,_,rfl⟩
 ·exact⟨_,_,rfl⟩
theorem B9(d:Nat)(Tb:s.wf)(hl:bs.length<=8000):∃x z t,R (d+6) 109 [Z (.str bs)] s=some (gz (dS bs) x z,t)/\Gr s t:=by
 obtain⟨s1,r,g1,b1,z1⟩:=CQ Tb;have b1:s1.get s.size=some (.K true cY):=b1;have Sw:aO (aA [iz,iz,iz,iz,.av,.av] [])=some (.v (.agg cY)):=rfl
 have err:∀{v:St},Gr s v->v.get s.size=some (.K true cY)->∃w,aj 6 (Z (.ptr s.size 0)) (.v (.agg cY)) v=some (tt,w)/\ay 6 (Z (.ptr s.size 0)) w.get=some (.v (.agg cY))/\Gr s w:=by
  intro v gv hv;refine⟨_,q6 hv rfl,Df (St.dh),St.wf_set gv.wf (gv.wf.lt hv) _,by simpa using gv.2.1,λc q=>by rw[St.bO (by omega)];exact gv.2.2 c q⟩
 have lb:aV (Z (.str bs))=some (J bs.length):=rfl;by_cases S2:bs.length<6
 ·have hq:dS bs=none:=by unfold dS;rw[af (.inl S2)]
  obtain⟨w,st,ld,gw⟩:=err g1 b1;rw[hq];refine⟨.av,.av,w,?_,gw⟩;have Sr:(bs.length:Int)<6:=by omega
  rw[jJ];unfold f109;generalize R (d+5)=rr,s.size=ss at*;simp[r,lb,Sr,Sw,st,ld,rC,rT,aD,a8,gz,bD]
 have Sr:¬(bs.length:Int)<6:=by omega
 by_cases S7:4000<bs.length
 ·have hq:dS bs=none:=by
   cases hq:dS bs with
   |none=>rfl
   |some g=>have:=(qH hq).2.2;omega
  obtain⟨w,st,ld,gw⟩:=err g1 b1;rw[hq];refine⟨.av,.av,w,?_,gw⟩;have Ss:(4000:Int)<(bs.length:Int):=by omega
  rw[jJ];unfold f109;generalize R (d+5)=rr,s.size=ss at*;simp[r,lb,Sr,Ss,Sw,st,ld,rC,rT,aD,a8,gz,bD]
 have Ss:¬(4000:Int)<(bs.length:Int):=by omega
 have p2:=ew (l:=bs) (m:=2) (n:=2) rfl (by omega);by_cases hT:bs.take 2=[84,75]
 rotate_left
 ·have hq:dS bs=none:=by unfold dS;rw[af (.inr hT)]
  obtain⟨w,st,ld,gw⟩:=err g1 b1;rw[hq];refine⟨.av,.av,w,?_,gw⟩;rw[jJ];unfold f109;generalize R (d+5)=rr,s.size=ss,bs.take 2=TT at*;simp[r,lb,Sr,Ss,p2,hT,Sw,st,ld,rC,rT,aD,a8,gz,bD]
 have w4:IntKind.i64.wrap ((bs.length:Int)-4)=((bs.length-4:Nat):Int):=by rw[aw _ (by omega) (by omega)];omega
 have p4:=ew (l:=bs) (m:=bs.length-4) (n:=((bs.length-4:Nat):Int)) rfl (by omega);obtain⟨j,hB⟩:=aZ (bs.take (bs.length-4));rw[<-hB]at p4;have SP:j.length<=8000:=by rw[hB,bb];omega
 have SY:2<=j.length:=by rw[hB,bb];omega
 obtain⟨s2,SC⟩:=aZ (s1.push (.K true (cC j 2 false)));have C:aO (aA [.str [],iz,.bool false] [(0,1,Z (.str j)),(1,1,J 2)])=some (.v (.agg (cC j 2 false))):=rfl;have y:aE s1 (b6 (.v (.agg (cC j 2 false))))=some (Z (.ptr s1.size 0),s2):=by rw[SC];rfl
 have g2:Gr s1 s2:=by rw[SC];exact Gr.push g1.wf _
 have z2:s2.size=s1.size+1:=by rw[SC];simp
 obtain⟨P,SQ⟩:=aZ (s1.size);have C0:GC 2 s2 P j s2 ⟨2,false⟩ .av 0 []:=⟨by rw[SC,SQ];exact St.ec,SY,⟨g2.wf,au _,λ_ _ _=>rfl⟩,Ow.nil 2 s2,λc q=>(by cases q),by omega⟩;rw[<-SQ]at y;obtain⟨u0,Su,C1,n0,k0⟩:=C0.next (d+3) (by omega);obtain⟨u1,e1,C2,n1,k1⟩:=C1.next (d+3) (by omega);obtain⟨u2,X,C3,n2,k2⟩:=C2.next (d+3) (by omega);obtain⟨u3,Q,C4,n3,k3⟩:=C3.next (d+3) (by omega);rw[show bE j ⟨2,false⟩=nC j 0 from rfl]at Su e1 X Q C1 C2 C3 C4 n0 n1 n2 n3;rw[show bE j (nC j 0).2=nC j 1 from rfl]at e1 X Q C2 C3 C4 n1 n2 n3;rw[show bE j (nC j 1).2=nC j 2 from rfl]at X Q C3 C4 n2 n3;rw[show bE j (nC j 2).2=nC j 3 from rfl]at Q C4 n3;clear C0 C1 C2 C3 k0 k1 k2;have kb:sH P s2 u3:=C4.bt;have Tc:=kb.2.1;have t3:u3.get s.size=some (.K true cY):=by rw[kb.2.2 _ (by omega) (by omega),g2.2.2 _ (by omega)];exact b1
 have SO:Gr s u3:=⟨kb.wf,by omega,λc q=>by rw[kb.2.2 c (by omega) (by omega),g2.2.2 c (by omega),g1.2.2 c q]⟩;by_cases ho:Qr j=true
 rotate_left
 ·have hq:dS bs=none:=by
   cases hq:dS bs with
   |none=>rfl
   |some g=>
    have:=(vr hq).1;rw[<-hB]at this;exact absurd this ho
  obtain⟨w,st,ld,gw⟩:=err SO t3;rw[hq];refine⟨.av,.av,w,?_,gw⟩;have SL:¬((nC j 0).1<=1073741824/\(nC j 1).1<=3/\(nC j 2).1<=1099511627776/\(nC j 3).1<=1099511627776):=λh=>ho (aK h)
  have q:(1073741824:Int)<((nC j 0).1:Nat)\/(¬(1073741824:Int)<((nC j 0).1:Nat)/\(3:Int)<((nC j 1).1:Nat))\/(¬(1073741824:Int)<((nC j 0).1:Nat)/\¬(3:Int)<((nC j 1).1:Nat)/\(1099511627776:Int)<((nC j 2).1:Nat))\/(¬(1073741824:Int)<((nC j 0).1:Nat)/\¬(3:Int)<((nC j 1).1:Nat)/\¬(1099511627776:Int)<((nC j 2).1:Nat)/\(1099511627776:Int)<((nC j 3).1:Nat)):=by omega
  rw[jJ];unfold f109;clear ho SL hq;simp only[aH,Nat.reduceAdd]at Su e1 X Q;generalize R (d+5)=rr,s.size=ss,((bs.length-4:Nat):Int)=L4,bs.take 2=TT,((nC j 0).1:Int)=N0,((nC j 1).1:Int)=N1,((nC j 2).1:Int)=N2,((nC j 3).1:Int)=N3 at*;rcases q with h | ⟨F,h⟩ | ⟨F,I,h⟩ | ⟨F,I,h3,h⟩
  ·simp[r,lb,Sr,Ss,p2,hT,w4,p4,C,y,Su,e1,X,Q,h,Sw,st,ld,rC,rT,aD,a8,gz,bD]
  ·simp[r,lb,Sr,Ss,p2,hT,w4,p4,C,y,Su,e1,X,Q,F,h,Sw,st,ld,rC,rT,aD,a8,gz,bD]
  ·simp[r,lb,Sr,Ss,p2,hT,w4,p4,C,y,Su,e1,X,Q,F,I,h,Sw,st,ld,rC,rT,aD,a8,gz,bD]
  ·simp[r,lb,Sr,Ss,p2,hT,w4,p4,C,y,Su,e1,X,Q,F,I,h3,h,Sw,st,ld,rC,rT,aD,a8,gz,bD]
 have SL:=fL (show decide _=true from ho);obtain⟨S8,S6,l2,l3⟩:=SL;have Y:¬(1073741824:Int)<((nC j 0).1:Nat):=by omega
 have Sj:¬(3:Int)<((nC j 1).1:Nat):=by omega
 have Sk:¬(1099511627776:Int)<((nC j 2).1:Nat):=by omega
 have Sl:¬(1099511627776:Int)<((nC j 3).1:Nat):=by omega
 have cv:∀n:Nat,n<=4000000000000->az .i64 (J6 (n:Nat))=some (J n):=λn hn=>by rw[aY,fJ _ (by omega)]
 have v0:=cv (nC j 0).1 (by omega);have v1:=cv (nC j 1).1 (by omega);have v2:=cv (nC j 2).1 (by omega)
 have ad:ah .add (J6 ((nC j 2).1:Nat)) (J6 ((nC j 3).1:Nat))=some (J6 ((nC j 2).1+(nC j 3).1:Nat)):=by
  rw[cw,show((nC j 2).1:Int)+((nC j 3).1:Nat)=(((nC j 2).1+(nC j 3).1:Nat):Int) by omega,wrap64 _ (by omega)]
 have v3:=cv ((nC j 2).1+(nC j 3).1) (by omega);obtain⟨G,hG⟩:=aZ ((oe j).1);obtain⟨bad,Sv⟩:∃b,b=(oe j).2.bad:=⟨_,rfl⟩
 have SZ:G.i=((nC j 0).1:Nat)/\G.t=((nC j 1).1:Nat)/\G.f=((nC j 2).1:Nat)/\G.o=((nC j 2).1+(nC j 3).1:Nat):=by
  rw[hG];unfold oe;split
  ·rename_i h;exact⟨rfl,by rw[h];rfl,rfl,by dsimp only;omega⟩
  ·exact⟨rfl,rfl,rfl,by dsimp only;omega⟩
 obtain⟨S4,S5,i2,i3⟩:=SZ
 have U:aO (aA [iz,iz,iz,iz,.av,.av] [(0,1,J (nC j 0).1),(1,1,J (nC j 1).1),(2,1,J (nC j 2).1),(3,1,J ((nC j 2).1+(nC j 3).1:Nat))])=some (AQ G .av .av):=by
  unfold AQ cQ;rw[S4,S5,i2,i3];rfl
 obtain⟨u4,Sn,g4,b4,z4⟩:=CQ kb.wf;obtain⟨u5,SD⟩:=aZ (u4.set u3.size (.K true (cQ G .av .av)));have Sp:aj 6 (Z (.ptr u3.size 0)) (AQ G .av .av) u4=some (tt,u5):=by rw[SD];exact mS b4 rfl
 have b5:u5.get u3.size=some (.K true (cQ G .av .av)):=by rw[SD];exact St.dh
 have g5:Gr u3 u5:=by
  rw[SD];exact⟨St.wf_set g4.wf (g4.wf.lt b4) _,by simpa using g4.2.1,λc q=>by rw[St.bO (by omega)];exact g4.2.2 c q⟩
 have z5:u5.size=u3.size+1:=by rw[SD];simpa using z4
 have C5:=C4.gr g5;have SH:=LA ho;have SG:=Fc j;rw[<-hG]at SH SG
 have read:∃N x z E,((nC j 1).1=0/\R (d+5) 147 [Z (.ptr P 0)] u5=some (Z x,N)/\aj 1 (Z (.ptr u3.size 4)) (Z x) N=some (tt,E)\/¬(nC j 1).1=0/\R (d+5) 148 [Z (.ptr P 0),J (nC j 1).1] u5=some (Z z,N)/\aj 1 (Z (.ptr u3.size 5)) (Z z) N=some (tt,E)) ∧
  E.get u3.size=some (.K true (cQ G x z))/\nJ E x G.l/\RA E z G.a/\(∀c,own x=some c->c<E.size)/\(∀c,own z=some c->c<E.size)/\aa (Z (.ptr P 2)) E.get=some (B bad)/\P<E.size/\Gr s E/\E.get s.size=some (.K true cY)/\E.wf:=by
  have SA:P≠u3.size:=by omega
  have SE:∀{v:St} (bl:er),sH P u5 v->(sH P u5 (v.set u3.size bl)\/True)->v.wf->(Gr s (v.set u3.size bl)/\(v.set u3.size bl).get s.size=some (.K true cY)/\(v.set u3.size bl).wf):=by
   intro v bl hv _ wv;have hz:=hv.2.1;refine⟨⟨St.wf_set wv (by omega) _,by simp;omega,λc q => ?_⟩,?_,St.wf_set wv (by omega) _⟩
   ·rw[St.bO (by omega),hv.2.2 c (by omega) (by omega),g5.2.2 c (by omega),SO.2.2 c q]
   ·rw[St.bO (by omega),hv.2.2 _ (by omega) (by omega),g5.2.2 _ (by omega)];exact t3
  by_cases H:(nC j 1).1=0
  ·have hr:oe j=(⟨((nC j 0).1:Nat),0,((nC j 2).1:Nat),((nC j 2).1:Nat)+((nC j 3).1:Nat),(qi j (nC j 3).2).1,[]⟩,(qi j (nC j 3).2).2):=by unfold oe;rw[af H]
   obtain⟨N,x,e6,T⟩:=OJ (d+2) (C5.base 2) SP;have SK:G.l=(qi j (nC j 3).2).1:=by rw[hG,hr]
   have SI:G.a=[]:=by rw[hG,hr]
   have SJ:bad=(qi j (nC j 3).2).2.bad:=by rw[Sv,hr]
   have SV:N.get u3.size=some (.K true (cQ G .av .av)):=by rw[T.bt.2.2 _ (by omega) (bu SA)];exact b5
   have z6:=T.bt.2.1;have SN:own x≠some u3.size:=λe=>by have:=T.new _ e;omega
   obtain⟨E,u⟩:=aZ (N.set u3.size (.K true (cQ G x .av)));obtain⟨gs,t7,O⟩:=SE (.K true (cQ G x .av)) T.bt (.inr trivial) T.bt.wf;rw[<-u]at gs t7 O;have z7:E.size=N.size:=by rw[u];simp
   refine⟨N,x,.av,E,.inl ⟨H,e6,by rw[u];exact aJ SV (by simp[cQ])⟩,by rw[u];exact St.dh,?_,by rw[SI];exact Rd.nil 7 E,λc q=>by have:=T.new c q;omega,λc q=>(by cases q),?_,by omega,gs,t7,O⟩
   ·rw[SK];exact T.ow.rd.keep λc q=>by rw[u];exact St.bO λe=>SN (by rw[q,e])
   ·rw[SJ];exact ag (by rw[u,St.bO SA];exact T.rd) rfl
  ·have hr:oe j=(⟨((nC j 0).1:Nat),((nC j 1).1:Nat),((nC j 2).1:Nat),((nC j 2).1:Nat)+((nC j 3).1:Nat),[],(qg j (nC j 1).1 (nC j 3).2).1⟩,(qg j (nC j 1).1 (nC j 3).2).2):=by unfold oe;rw[ae H]
   obtain⟨N,z,e6,T⟩:=OH (d+2) (k:=(nC j 1).1) (by omega) S6 (C5.base 7) SP;have SK:G.l=[]:=by rw[hG,hr]
   have SI:G.a=(qg j (nC j 1).1 (nC j 3).2).1:=by rw[hG,hr]
   have SJ:bad=(qg j (nC j 1).1 (nC j 3).2).2.bad:=by rw[Sv,hr]
   have SV:N.get u3.size=some (.K true (cQ G .av .av)):=by rw[T.bt.2.2 _ (by omega) (bu SA)];exact b5
   have z6:=T.bt.2.1;have SN:own z≠some u3.size:=λe=>by have:=T.new _ e;omega
   obtain⟨E,u⟩:=aZ (N.set u3.size (.K true (cQ G .av z)));obtain⟨gs,t7,O⟩:=SE (.K true (cQ G .av z)) T.bt (.inr trivial) T.bt.wf;rw[<-u]at gs t7 O;have z7:E.size=N.size:=by rw[u];simp
   refine⟨N,.av,z,E,.inr ⟨H,e6,by rw[u];exact aJ SV (by simp[cQ])⟩,by rw[u];exact St.dh,by rw[SK];exact Rd.nil 2 E,?_,λc q=>(by cases q),λc q=>by have:=T.new c q;omega,?_,by omega,gs,t7,O⟩
   ·rw[SI];exact T.ow.rd.keep λc q=>by rw[u];exact St.bO λe=>SN (by rw[q,e])
   ·rw[SJ];exact ag (by rw[u,St.bO SA];exact T.rd) rfl
 obtain⟨N,x,z,E,Sz,b7,rx,rz,S9,Ta,SR,S0,SW,t7,O⟩:=read;have l7:=j8 (m:=E.get) b7;obtain⟨u8,e8,g8⟩:=HH d O SH SG rx S9 rz Ta;have b8:=g8.get b7 O;have l8:=j8 (m:=u8.get) b8;have t8:=g8.get t7 O;have Sm:aa (Z (.ptr P 2)) u8.get=some (B bad):=by rw[kS (g8.2.2 P S0)];exact SR
 have Sy:=SW.trans g8;obtain⟨SB,c,hR⟩:=Hs G;have Sx:=NY (bs:=bs) (S:=SB) (c:=c) (by rw[<-hB];exact ho) (by rw[<-hB,<-hG];exact hR);rw[<-hB,<-hG,<-Sv]at Sx;rw[hR]at e8;obtain⟨w,st,ld,gw⟩:=err Sy t8;obtain⟨w2,SM⟩:=aZ (u8.set s.size (.K true (cQ G x z)));have SU:aj 6 (Z (.ptr s.size 0)) (AQ G x z) u8=some (tt,w2):=by rw[SM];exact mS t8 rfl
 have SS:=j8 (m:=w2.get) (by rw[SM];exact St.dh:w2.get s.size=some (.K true (cQ G x z)));have SX:Gr s w2:=by rw[SM];exact⟨St.wf_set Sy.wf (Sy.wf.lt t8) _,by simpa using Sy.2.1,λc q=>by rw[St.bO (by omega)];exact Sy.2.2 c q⟩
 have V:ba (Z (.ptr P 0))=some (Z (.ptr P 0)):=rfl;obtain⟨T1,S1⟩:=aZ (((nC j 1).1:Int));have S3:¬(nC j 1).1=0->az .i64 (J6 ((nC j 1).1:Nat))=some (J (nC j 1).1):=λ_=>v1
 have D:(((nC j 1).1:Int)=0/\R (d+5) 147 [Z (.ptr P 0)] u5=some (Z x,N)/\aj 1 (Z (.ptr u3.size 4)) (Z x) N=some (tt,E))\/(¬((nC j 1).1:Int)=0/\R (d+5) 148 [Z (.ptr P 0),J (nC j 1).1] u5=some (Z z,N)/\aj 1 (Z (.ptr u3.size 5)) (Z z) N=some (tt,E)):=by
  rcases Sz with ⟨h,a,b⟩ | ⟨h,a,b⟩
  ·exact .inl ⟨by omega,a,b⟩
  ·exact .inr ⟨by omega,a,b⟩
 clear Sz S1 T1 S3 cv S8 S6 l2 l3 hG Sv S4 S5 i2 i3 SH SG hR;simp only[aH,Nat.reduceAdd]at Su e1 X Q;rw[Sx];cases bad with
 |true=>
  rw[ae (by simp)];refine⟨.av,.av,w,?_,gw⟩;rw[jJ];unfold f109;clear Sx;generalize R (d+5)=rr,s.size=ss,u3.size=s3,((bs.length-4:Nat):Int)=L4,bs.take 2=TT,(((nC j 2).1+(nC j 3).1:Nat):Int)=SF,((nC j 0).1:Int)=N0,((nC j 1).1:Int)=N1,((nC j 2).1:Int)=N2,((nC j 3).1:Int)=N3 at*;rcases D with ⟨H,F,I⟩ | ⟨H,F,I⟩
  ·subst H;simp[r,lb,Sr,Ss,p2,hT,w4,p4,C,y,Su,e1,X,Q,Y,Sj,Sk,Sl,v0,v2,ad,v3,U,Sn,Sp,v1,F,I,l7,e8,ai,V,Sm,Sw,st,ld,rC,rT,aD,a8,gz,bD]
  ·simp[r,lb,Sr,Ss,p2,hT,w4,p4,C,y,Su,e1,X,Q,Y,Sj,Sk,Sl,v0,v2,ad,v3,U,Sn,Sp,v1,H,F,I,l7,e8,ai,V,Sm,Sw,st,ld,rC,rT,aD,a8,gz,bD]
 |false=>
  by_cases q:c=0
  rotate_left
  ·rw[ae λh=>q h.2.1];refine⟨.av,.av,w,?_,gw⟩;rw[jJ];unfold f109;clear Sx;generalize R (d+5)=rr,s.size=ss,u3.size=s3,((bs.length-4:Nat):Int)=L4,bs.take 2=TT,(((nC j 2).1+(nC j 3).1:Nat):Int)=SF,((nC j 0).1:Int)=N0,((nC j 1).1:Int)=N1,((nC j 2).1:Int)=N2,((nC j 3).1:Int)=N3 at*;rcases D with ⟨H,F,I⟩ | ⟨H,F,I⟩
   ·subst H;simp[r,lb,Sr,Ss,p2,hT,w4,p4,C,y,Su,e1,X,Q,Y,Sj,Sk,Sl,v0,v2,ad,v3,U,Sn,Sp,v1,F,I,l7,e8,ai,V,Sm,q,Sw,st,ld,rC,rT,aD,a8,gz,bD]
   ·simp[r,lb,Sr,Ss,p2,hT,w4,p4,C,y,Su,e1,X,Q,Y,Sj,Sk,Sl,v0,v2,ad,v3,U,Sn,Sp,v1,H,F,I,l7,e8,ai,V,Sm,q,Sw,st,ld,rC,rT,aD,a8,gz,bD]
  by_cases hS:SB=bs
  rotate_left
  ·rw[ae λh=>hS h.2.2];refine⟨.av,.av,w,?_,gw⟩;subst q;rw[jJ];unfold f109;clear Sx;generalize R (d+5)=rr,s.size=ss,u3.size=s3,((bs.length-4:Nat):Int)=L4,bs.take 2=TT,(((nC j 2).1+(nC j 3).1:Nat):Int)=SF,((nC j 0).1:Int)=N0,((nC j 1).1:Int)=N1,((nC j 2).1:Int)=N2,((nC j 3).1:Int)=N3 at*;rcases D with ⟨H,F,I⟩ | ⟨H,F,I⟩
   ·subst H;simp[r,lb,Sr,Ss,p2,hT,w4,p4,C,y,Su,e1,X,Q,Y,Sj,Sk,Sl,v0,v2,ad,v3,U,Sn,Sp,v1,F,I,l7,e8,ai,V,Sm,hS,Sw,st,ld,rC,rT,aD,a8,gz,bD]
   ·simp[r,lb,Sr,Ss,p2,hT,w4,p4,C,y,Su,e1,X,Q,Y,Sj,Sk,Sl,v0,v2,ad,v3,U,Sn,Sp,v1,H,F,I,l7,e8,ai,V,Sm,hS,Sw,st,ld,rC,rT,aD,a8,gz,bD]
  rw[af ⟨rfl,q,hS⟩];refine⟨x,z,w2,?_,SX⟩;subst q;rw[jJ];unfold f109;clear Sx;generalize R (d+5)=rr,s.size=ss,u3.size=s3,((bs.length-4:Nat):Int)=L4,bs.take 2=TT,(((nC j 2).1+(nC j 3).1:Nat):Int)=SF,((nC j 0).1:Int)=N0,((nC j 1).1:Int)=N1,((nC j 2).1:Int)=N2,((nC j 3).1:Int)=N3 at*;rcases D with ⟨H,F,I⟩ | ⟨H,F,I⟩
  ·subst H;simp[r,lb,Sr,Ss,p2,hT,w4,p4,C,y,Su,e1,X,Q,Y,Sj,Sk,Sl,v0,v2,ad,v3,U,Sn,Sp,v1,F,I,l7,e8,ai,V,Sm,hS,l8,SU,SS,rC,rT,aD,a8,gz,bD]
  ·simp[r,lb,Sr,Ss,p2,hT,w4,p4,C,y,Su,e1,X,Q,Y,Sj,Sk,Sl,v0,v2,ad,v3,U,Sn,Sp,v1,H,F,I,l7,e8,ai,V,Sm,hS,l8,SU,SS,rC,rT,aD,a8,gz,bD]
end
section
variable {s t u s0:St}{x y z b bx lx:S}{bs:Bs}{k V p e:Nat}{r:Rr}{g:Sq}
theorem Ca(d:Nat)(Sk:s.wf)(hl:bs.length<=8000):∃t,R (d+7) 62 [Z (.str bs)] s=some (P0 (dS bs),t)/\Gr s t:=by
 obtain⟨s1,F,T,Y,z1⟩:=CR Sk;obtain⟨V,X,k,x,y⟩:=B9 d T.wf hl;obtain⟨B,G,z,N,z3⟩:=CQ y.wf;have Sl:=y.2.1;cases Q:dS bs with
 |none=>
  rw[Q]at x;simp only[gz]at x;obtain⟨s4,e⟩:=aZ (B.set k.size (.K true cY));have u:aj 6 (Z (.ptr k.size 0)) (.v (.agg cY)) B=some (tt,s4):=by rw[e];exact q6 N rfl
  have E:∀c,c<k.size->s4.get c=k.get c:=λc q=>by rw[e,St.bO (by omega)];exact z.2.2 c q
  have j:s4.wf:=by rw[e];exact St.wf_set z.wf (z.wf.lt N) _
  have z4:s4.size=B.size:=by rw[e];simp
  have C:Gr s s4:=⟨j,by omega,λc q=>by rw[E c (by omega),y.2.2 c (by omega),T.2.2 c q]⟩;have H:s4.get s.size=some (.K true Cw):=by rw[E _ (by omega),y.2.2 _ (by omega)];exact Y
  have S:aO (aA [iz,iz,iz,iz,.int .u32 0] [])=some (AI ⟨0,0,0,0,0⟩):=rfl;obtain⟨r,h⟩:=aZ (s4.set s.size (.K true (cI ⟨0,0,0,0,0⟩)));have w:aj 5 (Z (.ptr s.size 0)) (AI ⟨0,0,0,0,0⟩) s4=some (tt,r):=by rw[h];exact p2 H rfl
  have U:=tg (m:=r.get) (by rw[h];exact St.dh:r.get s.size=some (.K true (cI ⟨0,0,0,0,0⟩)));refine⟨r,?_,?_⟩
  ·rw[EL];unfold f62;generalize R (d+6)=rr at*;simp[F,x,ai,G,u,S,w,U,rC,rT,aD,a8];rfl
  ·rw[h];exact⟨St.wf_set j (j.lt H) _,by simpa using C.2.1,λc q=>by rw[St.bO (by omega)];exact C.2.2 c q⟩
 |some g=>
  rw[Q]at x;simp only[gz]at x;obtain⟨Sm,D,h4⟩:=qH Q;obtain⟨_,_,h6,_⟩:=vr Q
  have hB:bs.take (bs.length-4)=bP g:=by
   rw[<-D];have:(dz g).length=(bP g).length+4:=by simp[dz,four]
   rw[this,jC];unfold dz;rw[rB]
  have Sj:(bP g).length<=4000:=by rw[<-hB,bb];omega
  obtain⟨s4,e⟩:=aZ (B.set k.size (.K true (cQ g V X)));have u:aj 6 (Z (.ptr k.size 0)) (AQ g V X) B=some (tt,s4):=by rw[e];exact mS N rfl
  have O:s4.get k.size=some (.K true (cQ g V X)):=by rw[e];exact St.dh
  have E:∀c,c<k.size->s4.get c=k.get c:=λc q=>by rw[e,St.bO (by omega)];exact z.2.2 c q
  have j:s4.wf:=by rw[e];exact St.wf_set z.wf (z.wf.lt N) _
  have z4:s4.size=B.size:=by rw[e];simp
  have C:Gr s s4:=⟨j,by omega,λc q=>by rw[E c (by omega),y.2.2 c (by omega),T.2.2 c q]⟩;have H:s4.get s.size=some (.K true Cw):=by rw[E _ (by omega),y.2.2 _ (by omega)];exact Y
  have q0:aa (Z (.ptr k.size 0)) s4.get=some (J g.i):=ag O rfl;have q1:aa (Z (.ptr k.size 1)) s4.get=some (J g.t):=ag O rfl;have q2:aa (Z (.ptr k.size 2)) s4.get=some (J g.f):=ag O rfl;have q3:aa (Z (.ptr k.size 3)) s4.get=some (J g.o):=ag O rfl;have lb:aV (Z (.str bs))=some (J bs.length):=rfl;have w4:IntKind.i64.wrap ((bs.length:Int)-4)=((bs.length-4:Nat):Int):=by rw[aw _ (by omega) (by omega)];omega
  have p4:=ew (l:=bs) (m:=bs.length-4) (n:=((bs.length-4:Nat):Int)) rfl (by omega);rw[hB]at p4;have e5:=wg (s:=s4) (d+4) (bs:=bP g) (by omega);have S:aO (aA [iz,iz,iz,iz,.int .u32 0] [(0,1,J g.i),(1,1,J g.t),(2,1,J g.f),(3,1,J g.o),(4,1,I .u32 (cB 1 (bP g):Nat))])=some (AI (o8 g)):=rfl;obtain⟨r,h⟩:=aZ (s4.set s.size (.K true (cI (o8 g))));have w:aj 5 (Z (.ptr s.size 0)) (AI (o8 g)) s4=some (tt,r):=by rw[h];exact p2 H rfl
  have U:=tg (m:=r.get) (by rw[h];exact St.dh:r.get s.size=some (.K true (cI (o8 g))));refine⟨r,?_,?_⟩
  ·rw[EL];unfold f62 P0;simp only[aH,Nat.reduceAdd]at e5;generalize R (d+6)=rr at*;simp[F,x,ai,G,u,q0,q1,q2,q3,lb,w4,p4,e5,S,w,U,rC,rT,aD,a8]
  ·rw[h];exact⟨St.wf_set j (j.lt H) _,by simpa using C.2.1,λc q=>by rw[St.bO (by omega)];exact C.2.2 c q⟩
end
end Go.Proofs.YtbohejffelipoaaGreatDoor
