/-
  Several texts in one: what functions that the law reaches compute. No conditions but those named in each line.
-/
import Derived.Test.YtbohejffelipoaaGreatDoorFnsA
import Derived.Test.YtbohejffelipoaaGreatDoorFnsB
import Derived.Test.YtbohejffelipoaaGreatDoorFnsC
set_option linter.unusedVariables false
set_option linter.unusedSimpArgs false
set_option maxHeartbeats 4000000
namespace Go.Proofs.YtbohejffelipoaaGreatDoor
open Go Go.Abs Go.Abs.F
def Pa(k:Nat):Bs:=if k<10 then [UInt8.ofNat (48+k)]else if k<100 then [UInt8.ofNat (48+k / 10),UInt8.ofNat (48+k%10)]else [UInt8.ofNat (48+k / 100),UInt8.ofNat (48+k / 10%10),UInt8.ofNat (48+k%10)]
def bp(k:Nat):Bs:=115::Pa k
def isStr(n:Bs)(x:Option (T×St)):Bool:=match x with
 |some (.v (.s (.str m)),_)=>m == n
 |_=>false
def isInt(n:Int)(x:Option (T×St)):Bool:=match x with
 |some (.v (.s (.int .i64 m)),_)=>decide (m=n)
 |_=>false
theorem Kw{n:Bs}{x:Option (T×St)}(h:isStr n x=true):Option.map Prod.fst x=some (Z (.str n)):=by
 unfold isStr at h;split at h
 ·have:=eq_of_beq h;subst this;rfl
 ·cases h
theorem Kv{n:Int}{x:Option (T×St)}(h:isInt n x=true):Option.map Prod.fst x=some (J n):=by
 unfold isInt at h;split at h
 ·have:=fL h;subst this;rfl
 ·cases h
theorem NV{b:Bool}{x:Option (T×St)}(h:C6 b x=true):Option.map Prod.fst x=some (B b):=by
 obtain⟨a,rfl⟩:=GJ h;rfl
noncomputable def mJ(k:Nat):Bool:=isStr (bp k) (gA Tryz.prog 64 od 16 69 [J k] St.empty)&&(C6 true (gA Tryz.prog 64 od 16 90 [Z (.str (bp k))] St.empty)&&isInt (k:Nat) (gA Tryz.prog 64 od 16 52 [Z (.str (bp k))] St.empty))
set_option maxRecDepth 100000 in
theorem Oi:((List.range 16).all λk=>mJ (0+k+1))=true:=by kernel_rfl
set_option maxRecDepth 100000 in
theorem Oj:((List.range 16).all λk=>mJ (16+k+1))=true:=by kernel_rfl
set_option maxRecDepth 100000 in
theorem Ol:((List.range 16).all λk=>mJ (32+k+1))=true:=by kernel_rfl
set_option maxRecDepth 100000 in
theorem Om:((List.range 16).all λk=>mJ (48+k+1))=true:=by kernel_rfl
theorem HS:((List.range 64).all λk=>ko [Z (.str (bp (k+1)))])=true:=by kernel_rfl
section
variable {s:St}{k:Nat}
theorem wm(a:1<=k)(b:k<=64):ko [Z (.str (bp k))]=true:=by
 have:=e6.1 HS (k-1) (jA.2 (by omega))
 rwa [show k-1+1=k by omega]at this
theorem HT(a:k<=64):ko [J k]=true:=aK (by omega)
theorem zh(d:1<=k)(e:k<=64):mJ k=true:=by
 have c:∀i,i<4->((List.range 16).all λk=>mJ (16*i+k+1))=true:=λi hi=>by
  rcases (by omega:i=0\/i=1\/i=2\/i=3)with rfl | rfl | rfl | rfl
  ·exact Oi
  ·exact Oj
  ·exact Ol
  ·exact Om
 have:=e6.1 (c ((k-1) / 16) (by omega)) ((k-1)%16) (jA.2 (by omega))
 rwa [show 16*((k-1) / 16)+(k-1)%16+1=k by omega]at this
theorem BJ(d:Nat)(b:1<=k)(a:k<=64):R (d+1) 69 [J k] s=some (Z (.str (bp k)),s):=by
 have h:=zh b a;unfold mJ at h;rw[aM]at h;exact qU d s (by decide) (HT a) (jm rfl (Kw h.1) rfl)
theorem nW(a:1<=k)(b:k<=64):Ah (bp k):=λd s=>by
 have h:=zh a b;unfold mJ at h;rw[aM,aM]at h;exact BK d s (wm a b) (jm rfl (NV h.2.1) rfl)
theorem N0(d:Nat)(a:1<=k)(b:k<=64):R (d+1) 52 [Z (.str (bp k))] s=some (J k,s):=by
 have h:=zh a b;unfold mJ at h;rw[aM,aM]at h;exact qU d s (by decide) (wm a b) (jm rfl (Kv h.2.2) rfl)
end
def Gv:Bool:=(List.range 64).all λi=>(List.range 64).all λj=>(bp (i+1) == bp (j+1)) == Nat.beq i j
set_option maxRecDepth 100000 in
theorem yO:Gv=true:=by kernel_rfl
theorem xJ{i j:Nat}(hi:1<=i/\i<=64)(d:1<=j/\j<=64)(h:bp i=bp j):i=j:=by
 have b:=e6.1 yO (i-1) (jA.2 (by omega));have a:=e6.1 b (j-1) (jA.2 (by omega));rw[show i-1+1=i by omega,show j-1+1=j by omega,h,beq_self_eq_true]at a;have c:Nat.beq (i-1) (j-1)=true:=by simpa using a
 have:=dY c;omega
theorem G5{k:Nat}:(bp k).length<=4:=by
 unfold bp Pa;split
 ·simp
 ·split<;>simp
structure gq where
 t:Int
 v:Int
 deriving DecidableEq
def cS(x:gq):List S:=[.int .i64 x.t,.int .i64 x.v]
abbrev AS(x:gq):T := .v (.agg (cS x))
theorem CT(x:gq):(cS x).length=2:=rfl
def I6(n:Int):Prop := -9223372036854775808<=n/\n<9223372036854775808
abbrev W6(n:Int):Int:=IntKind.i64.wrap n
theorem jf{n:Int}(h:I6 n):W6 n=n:=aw _ h.1 h.2
theorem ei(n:Int):I6 (W6 n):=by
 unfold I6 W6 IntKind.wrap;simp[IntKind.signed,IntKind.bits];omega
theorem Qf(n:Int):∃k:Int,W6 n=n+18446744073709551616*k:=by
 unfold W6 IntKind.wrap;simp[IntKind.signed,IntKind.bits];refine⟨-((n+9223372036854775808) / 18446744073709551616),?_⟩;omega
theorem Me{a b k:Int}(h:a=b+18446744073709551616*k):W6 a=W6 b:=by
 unfold W6 IntKind.wrap;simp[IntKind.signed,IntKind.bits];omega
theorem D2(a b:Int):W6 (a+W6 b)=W6 (a+b):=by
 obtain⟨k,c⟩:=Qf b;exact Me (k:=k) (by rw[c];omega)
def cZ(n:Int):Nat:=if n<0 then(2*(-n)-1).toNat else(2*n).toNat
def fc(n:Nat):Int:=if n%2=1 then -((n / 2:Nat):Int)-1 else((n / 2:Nat):Int)
theorem mV(n:Int):fc (cZ n)=n:=by
 unfold fc cZ;by_cases h:n<0
 ·rw[af h,af (by omega)];omega
 ·rw[ae h,ae (by omega)];omega
theorem fE{n:Int}(h:I6 n):cZ n<2 ^ 64:=by
 obtain⟨a,b⟩:=h;unfold cZ;split<;>omega
theorem gD{n:Nat}(h:n<2 ^ 64):I6 (fc n):=by
 unfold I6 fc;split<;>omega
def cx:Int->List gq->Bool
 |_,[]=>true
 |last,a::r=>decide (last<a.t)&&decide (a.t<=1099511627776)&&cx a.t r
theorem jq:∀{l:List gq} {last:Int},cx last l=true->∀x∈l,last<x.t/\x.t<=1099511627776
 | [],_,_,x,hx=>by cases hx
 |a::r,last,h,x,hx=>by
  simp only[cx,aM,bK]at h;rcases cq.1 hx with rfl | hx
  ·exact⟨h.1.1,h.1.2⟩
  ·have:=jq h.2 x hx;exact⟨by omega,this.2⟩
def gN:Int->gq->List gq->Bs
 |_,_,[]=>[]
 |step,was,a::r=>(aq (cZ (W6 (W6 (a.t-was.t)-step)))++aq (cZ (W6 (a.v-was.v))))++gN (W6 (a.t-was.t)) a r
def hU(a:gq):Bs:=aq a.t.toNat++aq (cZ a.v)
def b5:List gq->Bs
 | []=>aq 0
 |a::r=>aq (r.length+1)++(hU a++gN 0 a r)
structure Rr where
 at_:Nat
 bad:Bool
 deriving DecidableEq
def nx(bs:Bs)(r:Rr):Nat×Rr:=match fY bs r.at_ with
 |some (n,c)=>(n,⟨c,r.bad⟩)
 |none=>(0,⟨r.at_,true⟩)
def fP(bs:Bs):Nat->List gq->Int->Rr->List gq×Rr
 | 0,acc,_,r=>(acc,r)
 |m+1,acc,step,r=>if r.bad=true then(acc,r)else
  match acc.getLast? with
  |none=>fP bs m [⟨W6 (nx bs r).1,fc (nx bs (nx bs r).2).1⟩] step (nx bs (nx bs r).2).2
  |some was=>fP bs m (acc++[⟨W6 (was.t+W6 (step+fc (nx bs r).1)),W6 (was.v+fc (nx bs (nx bs r).2).1)⟩]) (W6 (step+fc (nx bs r).1)) (nx bs (nx bs r).2).2
def eM(bs:Bs)(most:Nat)(r:Rr):Nat×Rr:=if most<(nx bs r).1 then(0,⟨(nx bs r).2.at_,true⟩)else nx bs r
def ug(l:List gq):Bool:=cx (-1) l&&Nat.ble l.length 64
def qF(bs:Bs):Option (List gq):=
 if((fP bs (eM bs 64 ⟨0,false⟩).1 [] 0 (eM bs 64 ⟨0,false⟩).2).2.bad || !ug (fP bs (eM bs 64 ⟨0,false⟩).1 [] 0 (eM bs 64 ⟨0,false⟩).2).1)=true then none
 else if b5 (fP bs (eM bs 64 ⟨0,false⟩).1 [] 0 (eM bs 64 ⟨0,false⟩).2).1=bs then some (fP bs (eM bs 64 ⟨0,false⟩).1 [] 0 (eM bs 64 ⟨0,false⟩).2).1 else none
theorem eR{bs pre post:Bs}{n:Nat}{bad:Bool}(a:bs=pre++(aq n++post))(b:n<2 ^ 64):nx bs ⟨pre.length,bad⟩=(n,⟨(pre++aq n).length,bad⟩):=by
 unfold nx;rw[me a rfl b,aI]
theorem rL:∀(l:List gq) {bs pre post:Bs} {acc:List gq} {step:Int} {was:gq},bs=pre++(gN step was l++post)->acc.getLast? = some was->I6 step->I6 was.t->I6 was.v->(∀x∈l,I6 x.t/\I6 x.v) →
 fP bs l.length acc step ⟨pre.length,false⟩=(acc++l,⟨(pre++gN step was l).length,false⟩)
 | [],bs,pre,post,acc,step,was,e,g,_,_,_,_=>by simp[fP,gN]
 |a::r,bs,pre,post,acc,step,was,e,g,y,z,B,h=>by
  obtain⟨c,d⟩:=h a eF
  have j:nx bs ⟨pre.length,false⟩=(cZ (W6 (W6 (a.t-was.t)-step)),⟨(pre++aq (cZ (W6 (W6 (a.t-was.t)-step)))).length,false⟩):=
   eR (post:=aq (cZ (W6 (a.v-was.v)))++gN (W6 (a.t-was.t)) a r++post) (by rw[e];simp[gN,bg]) (fE (ei _))
  have k:nx bs ⟨(pre++aq (cZ (W6 (W6 (a.t-was.t)-step)))).length,false⟩=(cZ (W6 (a.v-was.v)),⟨(pre++aq (cZ (W6 (W6 (a.t-was.t)-step)))++aq (cZ (W6 (a.v-was.v)))).length,false⟩):=
   eR (post:=gN (W6 (a.t-was.t)) a r++post) (by rw[e];simp[gN,bg]) (fE (ei _))
  have n:W6 (step+W6 (W6 (a.t-was.t)-step))=W6 (a.t-was.t):=by
   rw[D2,show step+(W6 (a.t-was.t)-step)=W6 (a.t-was.t) by omega];exact jf (ei _)
  have o:W6 (was.t+W6 (a.t-was.t))=a.t:=by rw[D2,show was.t+(a.t-was.t)=a.t by omega,jf c]
  have q:W6 (was.v+W6 (a.v-was.v))=a.v:=by rw[D2,show was.v+(a.v-was.v)=a.v by omega,jf d]
  have w:=rL r (bs:=bs) (pre:=pre++aq (cZ (W6 (W6 (a.t-was.t)-step)))++aq (cZ (W6 (a.v-was.v)))) (post:=post) (acc:=acc++[a]) (step:=W6 (a.t-was.t)) (was:=a) (by rw[e];simp[gN,bg]) (by simp) (ei _) c d (λx u=>h x (dC _ u))
  have step1:fP bs (r.length+1) acc step ⟨pre.length,false⟩=fP bs r.length (acc++[a]) (W6 (a.t-was.t)) ⟨(pre++aq (cZ (W6 (W6 (a.t-was.t)-step)))++aq (cZ (W6 (a.v-was.v)))).length,false⟩:=by
   rw[fP];simp only[g,j,k,mV,n,o,q];rfl
  rw[bB,step1,w];simp[gN,bg]
theorem C8{l:List gq}(h:ug l=true)(w:∀x∈l,I6 x.v):qF (b5 l)=some l:=by
 have g:=h;unfold ug at g;rw[aM]at g;have e:=cm g.2
 have u:∀x∈l,I6 x.t/\0<=x.t:=λx j=>by
  have:=jq g.1 x j;unfold I6;omega
 have o:∃at_,eM (b5 l) 64 ⟨0,false⟩=(l.length,⟨at_,false⟩)/\∃d,fP (b5 l) l.length [] 0 ⟨at_,false⟩=(l,⟨d,false⟩):=by
  cases l with
  |nil=>
   have n:nx (b5 []) ⟨([]:Bs).length,false⟩=(0,_):=eR (post:=[]) (by simp[b5]) (by decide);refine⟨([]++aq 0).length,?_,_,rfl⟩;have c:nx (b5 []) ⟨0,false⟩=(0,⟨([]++aq 0).length,false⟩):=n;unfold eM;rw[c,ae (by simp)];rfl
  |cons a r=>
   rw[bB]at e;have n:nx (b5 (a::r)) ⟨([]:Bs).length,false⟩=(r.length+1,⟨([]++aq (r.length+1)).length,false⟩):=eR (post:=hU a++gN 0 a r) (by simp[b5]) (by omega);have c:nx (b5 (a::r)) ⟨0,false⟩=(r.length+1,⟨([]++aq (r.length+1)).length,false⟩):=n;obtain⟨k,F⟩:=u a eF;have q:=w a eF;have y:nx (b5 (a::r)) ⟨([]++aq (r.length+1)).length,false⟩=(a.t.toNat,⟨([]++aq (r.length+1)++aq a.t.toNat).length,false⟩):=eR (post:=aq (cZ a.v)++gN 0 a r) (by simp[b5,hU,bg]) (by unfold I6 at k;omega);have z:nx (b5 (a::r)) ⟨([]++aq (r.length+1)++aq a.t.toNat).length,false⟩=(cZ a.v,⟨([]++aq (r.length+1)++aq a.t.toNat++aq (cZ a.v)).length,false⟩):=eR (post:=gN 0 a r) (by simp[b5,hU,bg]) (fE q);refine⟨([]++aq (r.length+1)).length,?_,?_⟩
   ·unfold eM;rw[c,ae (by simp;omega)];rfl
   ·have D:W6 (a.t.toNat:Int)=a.t:=(by rw[show(a.t.toNat:Int)=a.t by omega,jf k]);have E:=rL r (bs:=b5 (a::r)) (pre:=[]++aq (r.length+1)++aq a.t.toNat++aq (cZ a.v)) (post:=[]) (acc:=[a]) (step:=0) (was:=a) (by simp[b5,hU,bg]) rfl (by unfold I6;omega) k q (λx j=>⟨(u x (dC _ j)).1,w x (dC _ j)⟩);refine⟨([]++aq (r.length+1)++aq a.t.toNat++aq (cZ a.v)++gN 0 a r).length,?_⟩;rw[bB,fP];simp only[Fs,y,z,mV,D];exact E
 obtain⟨at_,B,d,C⟩:=o;unfold qF;rw[B];simp only[C,h];simp
theorem E5{n:Int}(h:I6 n):gH .xor (J n)=some (J (-n-1)):=by
 obtain⟨a,b⟩:=h
 have e:(BitVec.ofInt 64 (-1) ^^^ BitVec.ofInt 64 n) = ~~~ BitVec.ofInt 64 n:=by
  rw[show BitVec.ofInt 64 (-1)=BitVec.allOnes 64 by decide,BitVec.allOnes_xor]
 show some (J (IntKind.i64.wrap ((BitVec.ofInt 64 (-1) ^^^ BitVec.ofInt 64 n).toNat:Nat)))=_
 rw[e,BitVec.toNat_not,Eb]
 congr 2
 unfold IntKind.wrap;simp[IntKind.signed,IntKind.bits];omega
section
variable {s t u:St}{x y:S}{l:List gq}{bs:Bs}
theorem rq(d:Nat){n:Int}(h:I6 n):R (d+1) 196 [J n] s=some (J6 (cZ n:Nat),s):=by
 rw[JY];unfold f196;have t:=h;obtain⟨w,x⟩:=t;by_cases e:n<0
 ·obtain⟨m,k⟩:∃m:Nat,(m:Int) = -n-1:=⟨(-n-1).toNat,by omega⟩;have q:=E5 h;rw[<-k]at q;have g:az .u64 (J (m:Int))=some (J6 (m:Int)):=by rw[aY,wrap64 _ (by omega)]
  have c:ah .shl (J6 (m:Int)) (J6 1)=some (J6 ((m*2 ^ 1:Nat):Int)):=uq m 1 (by omega) (by decide);have r:ah .or (J6 ((m*2 ^ 1:Nat):Int)) (J6 1)=some (J6 ((m*2 ^ 1 ||| 1:Nat):Int)):=Du (m*2 ^ 1) 1 (by omega) (by decide)
  have j:m*2 ^ 1 ||| 1=cZ n:=by
   have u:m*2 ^ 1 ||| 1=m*2 ^ 1+1:=by
    have:=FW (i:=1) (b:=1) (by decide) m;rw[uJ m];exact this.symm
   rw[u];unfold cZ;rw[af e];omega
  rw[j]at r;generalize cZ n=z,((m*2 ^ 1:Nat):Int)=y at*;simp[e,q,g,c,r]
 ·obtain⟨m,k⟩:∃m:Nat,(m:Int)=n:=⟨n.toNat,by omega⟩;subst k;have g:az .u64 (J (m:Int))=some (J6 (m:Int)):=by rw[aY,wrap64 _ (by omega)]
  have c:ah .shl (J6 (m:Int)) (J6 1)=some (J6 ((m*2 ^ 1:Nat):Int)):=uq m 1 (by omega) (by decide)
  have j:m*2 ^ 1=cZ m:=by
   unfold cZ;rw[ae e];omega
  rw[j]at c;have o:¬(m:Int)<0:=e;generalize cZ m=z at*;simp[o,g,c]
theorem uv(d:Nat){n:Nat}(h:n<2 ^ 64):R (d+1) 154 [J6 (n:Nat)] s=some (J (fc n),s):=by
 rw[JC];unfold f154;have e:ah .and (J6 (n:Nat)) (J6 1)=some (J6 ((n &&& 1:Nat))):=Ex n 1 h (by decide);rw[Nat.and_one_is_mod]at e;have g:ah .shr (J6 (n:Nat)) (J6 1)=some (J6 ((n / 2 ^ 1:Nat))):=gW .u64 n 1 (by decide);have i:az .i64 (J6 ((n / 2 ^ 1:Nat):Int))=some (J ((n / 2 ^ 1:Nat):Int)):=by rw[aY,fJ _ (by omega)]
 have k:=E5 (n:=((n / 2 ^ 1:Nat):Int)) ⟨by omega,by omega⟩;by_cases j:n%2=1
 ·have f:fc n = -((n / 2 ^ 1:Nat):Int)-1:=by unfold fc;rw[af j]
  rw[f];have c:((n%2:Nat):Int)=1:=by omega
  generalize((n / 2 ^ 1:Nat):Int)=a,((n%2:Nat):Int)=b at*;simp[e,c,g,i,k]
 ·have f:fc n=((n / 2 ^ 1:Nat):Int):=by unfold fc;rw[ae j]
  rw[f];have c:¬((n%2:Nat):Int)=1:=by omega
  generalize((n / 2 ^ 1:Nat):Int)=a,((n%2:Nat):Int)=b at*;simp[e,c,g,i]
abbrev nJ(s:St)(x:S)(l:List gq):Prop:=Rd 2 s x l.length (cells cS l)
theorem Qa{i:Nat}{vs:List S}{e:gq}(h:s.get i=some (.K true vs))(b:vs.length=2):aj 2 (Z (.ptr i 0)) (AS e) s=some (tt,s.set i (.K true (cS e))):=by
 have a:(V.agg (cS e)).cells.length=2/\0+2<=vs.length:=⟨rfl,by omega⟩;simp only[aj,h,af a];rw[show(V.agg (cS e)).cells=cS e from rfl,cK (by rw[b];rfl)]
theorem nJ.CK(h:nJ s x l){j:Nat}{n:Int}{e:gq}(g:n=j)(a:l[j]? = some e):∃c p,ar 2 (Z x) (J n)=some (Z (.ptr c p))/\ay 2 (Z (.ptr c p)) s.get=some (AS e)/\aa (Z (.ptr c p)) s.get=some (J e.t)/\aa (Z (.ptr c (p+1))) s.get=some (J e.v):=by
 obtain⟨c,p,f,b,d⟩:=Rd.at h g (bq.1 a).1;rw[ji CT a]at d;exact⟨c,p,f,d,b 0 _ (by omega) (by rw[jh CT a (by omega)];rfl),b 1 _ (by omega) (by rw[jh CT a (by omega)];rfl)⟩
theorem Pz(g:s.wf)(e:gq):∃d a,aE s (a6 [iz,iz])=some (Z (.ptr s.size 0),d)/\aj 2 (Z (.ptr s.size 0)) (AS e) d=some (tt,a)/\Gr s a/\a.get s.size=some (.K true (cS e))/\a.size=s.size+1 ∧
 aa (Z (.ptr s.size 0)) a.get=some (J e.t)/\aa (Z (.ptr s.size 1)) a.get=some (J e.v):=by
 have f:(s.push (.K true [iz,iz])).get s.size=some (.K true [iz,iz]):=St.ec;have b:((s.push (.K true [iz,iz])).set s.size (.K true (cS e))).get s.size=some (.K true (cS e)):=St.dh;exact⟨s.push (.K true [iz,iz]),_,rfl,Qa f rfl,⟨St.wf_set (St.bo g _) (by simp) _,by simp,λc h=>by rw[St.bO (by omega),St.j5 (by omega)]⟩,b,by simp,ag b rfl,ag b rfl⟩
theorem pY(d:Nat)(Sj:s.wf)(h:nJ s x l)(G:∀c,own x=some c->c<s.size)(hl:l.length<=8000):∃t,R (d+1) 195 [Z x] s=some (B (cx (-1) l),t)/\Gr s t:=by
 have X:=h.lens
 obtain⟨j,Sk,O,hj,g⟩:=aL (f:=oK (R d) 8192)
  (λq v u=>∃(k:Nat) (last:Int),q+k=l.length/\v=[J last,Z x,J l.length,J k]/\Gr s u/\cx last (l.drop k)=cx (-1) l)
  (λj u=>((j = .exit 0 []/\cx (-1) l=true)\/(j = .ret (B false)/\cx (-1) l=false))/\Gr s u) (by
  rintro q v u ⟨k,last,hq,rfl,g,e⟩;by_cases V:k<l.length
  ·obtain⟨a,U⟩:=aZ (l[k]);have E:l[k]? = some a:=by rw[aU V,U]
   have D:l.drop k=a::l.drop (k+1):=by rw[cU V,U]
   rw[D]at e;obtain⟨c,p,H,N,_,_⟩:=nJ.CK (h.gr G g) (n:=(k:Int)) rfl E;obtain⟨u1,Q,y,z,C,b2,z2,I,Sl⟩:=Pz g.wf a;have r:(k:Int)<(l.length:Int):=by omega
   have w1:IntKind.i64.wrap ((k:Int)+1)=((k+1:Nat):Int):=by rw[aw _ (by omega) (by omega)];omega
   by_cases S:last<a.t
   ·by_cases T:a.t<=1099511627776
    ·left;refine⟨[J a.t,Z x,J l.length,J ((k+1:Nat):Int)],Q,q-1,?_,by omega,k+1,a.t,by omega,rfl,g.trans C,?_⟩
     ·unfold oK;have o:¬a.t<=last:=(by omega);have w:¬1099511627776<a.t:=(by omega);simp[r,H,N,y,z,I,o,w,w1]
     ·rw[<-e];simp[cx,S,T]
    ·right;refine⟨.ret (B false),Q,?_,(λv h=>by cases h),.inr ⟨rfl,by rw[<-e];simp[cx,T]⟩,g.trans C⟩;unfold oK;have o:¬a.t<=last:=(by omega);have w:1099511627776<a.t:=(by omega);simp[r,H,N,y,z,I,o,w]
   ·right;refine⟨.ret (B false),Q,?_,(λv h=>by cases h),.inr ⟨rfl,by rw[<-e];simp[cx,S]⟩,g.trans C⟩;unfold oK;have o:a.t<=last:=(by omega);simp[r,H,N,y,z,I,o]
  ·right;have F:k=l.length:=by omega
   subst F;rw[e7]at e;refine⟨.exit 0 [],u,?_,(λv h=>by cases h),.inl ⟨rfl,e.symm⟩,g⟩;unfold oK;simp)
  8192 l.length _ s ⟨0,-1,by omega,rfl,Gr.refl Sj,by simp⟩ (by omega)
 refine⟨Sk,?_,g⟩;rw[JX];unfold f195;have Y:((0:Nat):Int)=0:=rfl;rw[Y]at O;rcases hj with ⟨rfl,e⟩ | ⟨rfl,e⟩
 ·rw[e];simp[X,O]
 ·rw[e];simp[X,O]
def cR(x:S)(r:Rr):List S:=[x,.int .i64 r.at_,.bool r.bad]
theorem Kj{bs:Bs}{at_:Nat}:∀(f k n:Nat) {v j:Nat},f+k=10->n<2 ^ 64->mC bs at_ f k n=some (v,j)->v<2 ^ 64:=by
 intro f;induction f with
 |zero=>intro k n v j _ _ h;cases h
 |succ f t=>
  intro k n v j w r h;unfold mC at h;split at h
  ·cases h
  ·rename_i c u;split at h
   ·cases h
   ·rename_i q
    have e:c.toNat%128*2 ^ (7*k)<2 ^ 64:=by
     by_cases g:k=9
     ·subst g
      have:c.toNat<=1:=by
       apply nf;intro h;exact q ⟨rfl,h⟩
      have o:c.toNat%128<=1:=bl (Nat.mod_le _ _) this
      calc c.toNat%128*2 ^ (7*9)<=1*2 ^ (7*9):=dx _ o
       _<2 ^ 64:=by decide
     ·have o:c.toNat%128<128:=di _ (by decide)
      calc c.toNat%128*2 ^ (7*k)<=127*2 ^ (7*k):=dx _ (by omega)
       _<=127*2 ^ (7*8):=zU _ (ng (by omega) (by omega))
       _<2 ^ 64:=by decide
    have d:(n ||| c.toNat%128*2 ^ (7*k))<2 ^ 64:=lN r e;split at h
    ·exact t _ _ (by omega) d h
    ·split at h
     ·cases h
     ·cases h;exact d
theorem Ct{bs:Bs}{n:Nat}{v a:Nat}(h:fY bs n=some (v,a)):v<2 ^ 64:=by
 unfold fY at h;split at h
 ·exact Kj 10 0 0 (by omega) (by decide) h
 ·cases h
theorem vF(d:Nat){p:Nat}{r:Rr}(F:s.wf)(q:s.get p=some (.K true (cR x r)))(h:RB s x bs)(O:bs.length<=100000)(G:r.at_<=bs.length) :
 ∃t,R (d+2) 153 [Z (.ptr p 0)] s=some (J6 ((nx bs r).1:Nat),t)/\t.get p=some (.K true (cR x (nx bs r).2))/\t.size=s.size/\t.wf/\(nx bs r).2.at_<=bs.length/\(nx bs r).1<2 ^ 64/\∀c,c≠p->t.get c=s.get c:=by
 have k:=rk d h O (at_:=r.at_) (by omega);have H:aa (Z (.ptr p 0)) s.get=some (Z x):=ag q rfl;have I:aa (Z (.ptr p 1)) s.get=some (J r.at_):=ag q rfl;have j:=F.lt q;rw[JB];unfold f153;cases n:fY bs r.at_ with
 |some o=>
  obtain⟨v,E⟩:=o;have C:nx bs r=(v,⟨E,r.bad⟩):=by unfold nx;rw[n]
  have z:=mT n;have y:=Ct n;rw[n]at k;simp only[mf]at k;rw[C];obtain⟨t,e⟩:=aZ (s.set p (.K true (cR x ⟨E,r.bad⟩)));have st:aj 1 (Z (.ptr p 1)) (J E) s=some (tt,t):=by rw[e];exact aJ q (by simp[cR])
  refine⟨t,?_,by rw[e];exact St.dh,by rw[e];simp,by rw[e];exact St.wf_set F j _,z.2,y,λc u=>by rw[e];exact St.bO u⟩;generalize R (d+1)=Q at*;simp[H,I,k,ai,st]
 |none=>
  have C:nx bs r=(0,⟨r.at_,true⟩):=by unfold nx;rw[n]
  rw[n]at k;simp only[mf,af G]at k;rw[C];obtain⟨w,g⟩:=aZ (s.set p (.K true (cR x ⟨r.at_,true⟩)));have D:aj 1 (Z (.ptr p 2)) (B true) s=some (tt,w):=by rw[g];exact aJ q (by simp[cR])
  have N:w.get p=some (.K true (cR x ⟨r.at_,true⟩)):=by rw[g];exact St.dh
  obtain⟨t,e⟩:=aZ (w.set p (.K true (cR x ⟨r.at_,true⟩)));have st:aj 1 (Z (.ptr p 1)) (J r.at_) w=some (tt,t):=by rw[e];exact aJ N (by simp[cR])
  refine⟨t,?_,by rw[e];exact St.dh,by rw[e,g];simp,by rw[e,g];exact St.wf_set (St.wf_set F j _) (by simpa using j) _,G,(show(0:Nat)<2 ^ 64 by decide),λc u=>by rw[e,g,St.bO u,St.bO u]⟩;generalize R (d+1)=Q at*;simp[H,I,k,ai,D,st]
theorem EA(d:Nat){p:Nat}{r:Rr}(y:s.wf)(v:s.get p=some (.K true (cR x r)))(h:RB s x bs)(u:bs.length<=100000)(q:r.at_<=bs.length){most:Nat}(z:most<2 ^ 62) :
 ∃t,R (d+3) 152 [Z (.ptr p 0),J most] s=some (J (eM bs most r).1,t)/\t.get p=some (.K true (cR x (eM bs most r).2))/\t.size=s.size/\t.wf/\(eM bs most r).2.at_<=bs.length/\(eM bs most r).1<=most/\∀c,c≠p->t.get c=s.get c:=by
 obtain⟨t,j,b,z1,w1,g,A,m⟩:=vF d y v h u q;rw[JA];unfold f152;have i:az .u64 (J most)=some (J6 (most:Nat)):=by rw[aY,wrap64 _ (by omega)]
 by_cases l:most<(nx bs r).1
 ·have f:eM bs most r=(0,⟨(nx bs r).2.at_,true⟩):=by unfold eM;rw[af l]
  rw[f];obtain⟨n,a⟩:=aZ (t.set p (.K true (cR x ⟨(nx bs r).2.at_,true⟩)));have st:aj 1 (Z (.ptr p 2)) (B true) t=some (tt,n):=by rw[a];exact aJ b (by simp[cR])
  refine⟨n,?_,by rw[a];exact St.dh,by rw[a];simpa using z1,by rw[a];exact St.wf_set w1 (w1.lt b) _,g,cc _,λc k=>by rw[a,St.bO k];exact m c k⟩;have e:(most:Int)<((nx bs r).1:Int):=by omega
  generalize R (d+2)=w at*;simp[j,i,e,st]
 ·have f:eM bs most r=nx bs r:=by unfold eM;rw[ae l]
  rw[f];refine⟨t,?_,b,z1,w1,g,by omega,m⟩;have e:¬(most:Int)<((nx bs r).1:Int):=by omega
  have o:az .i64 (J6 ((nx bs r).1:Int))=some (J ((nx bs r).1:Int)):=by rw[aY,fJ _ (by omega)]
  generalize R (d+2)=w at*;simp[j,i,e,o]
end
section
variable {s t u s0:St}{x y b:S}{l:List gq}{bs:Bs}
def qb(l:List gq)(k:Nat)(step:Int)(b:Bs):Prop:=
 (k=0/\step=0/\((l=[]/\b=[])\/∃a r,l=a::r/\b=hU a++gN 0 a r))\/∃j was,k=j+1/\l[j]? = some was/\I6 step/\b=gN step was (l.drop k)
theorem x4{k:Nat}{step:Int}{c:Bs}(h:qb l k step c)(d:l.length<=k):c=[]:=by
 rcases h with ⟨rfl,_,⟨_,h⟩ | ⟨a,r,rfl,_⟩⟩ | ⟨j,was,rfl,_,_,h⟩
 ·exact h
 ·simp at d
 ·rw[h,ja d];rfl
theorem mM{e c p:Nat}{n:Int}(h:ar e (Z x) (J n)=some (Z (.ptr c p))):own x=some c:=by
 unfold ar at h;split at h
 ·rename_i heq
  injection heq with a
  injection a with a
  subst a;split at h
  ·injection h with h
   injection h with h
   injection h with h
   injection h with a b
   rw[<-a];rfl
  ·cases h
 ·cases h
theorem kS{g g':Mem}{c p:Nat}(h:g c=g' c):aa (Z (.ptr c p)) g=aa (Z (.ptr c p)) g':=by
 simp only[aa,h]
theorem CS(d:Nat){k:Nat}{step:Int}{acc F:Bs}(h:nJ s0 x l)(G:∀c,own x=some c->c<s0.size)(Y:FB s0 u b acc)(hr:qb l k step F)(hk:k<l.length)(hl:l.length<=64)(ht:∀a∈l,I6 a.t/\0<=a.t/\I6 a.v)(ha:acc.length<=22*k+11) :
 ∃u' b' B w z,oI (R (d+1)) 8192 [Z x,Z b,J step,Z x,J l.length,J k] u=some (.normal [Z x,Z b',J B,Z x,J l.length,J ((k+1:Nat):Int)],u') ∧
  FB s0 u' b' w/\qb l (k+1) B z/\w++z=acc++F/\w.length<=22*(k+1)+11:=by
 have Sn:(k:Int)<(l.length:Int):=by omega
 have w1:IntKind.i64.wrap ((k:Int)+1)=((k+1:Nat):Int):=by rw[aw _ (by omega) (by omega)];omega
 obtain⟨a,X⟩:=aZ (l[k]);have D:l[k]? = some a:=by rw[aU hk,X]
 obtain⟨T,SB,U⟩:=ht a (bS D);have hu:=h.gr G Y.gr;obtain⟨c,p,ix,ld,_,_⟩:=nJ.CK hu (n:=(k:Int)) rfl D;obtain⟨u1,u2,e1,e2,g2,b2,z2,Sz,SA⟩:=Pz Y.gr.wf a;have q:=Fr.j6 Y g2;have C:∀n,(aq n).length<=11:=aX;have o:own b≠some u.size:=λe=>by have:=(Y.new _ e).2;omega
 rcases hr with ⟨rfl,rfl,⟨rfl,_⟩ | ⟨g,r,rfl,rfl⟩⟩ | ⟨j,was,rfl,hj,SC,rfl⟩
 ·simp at hk
 ·have:g=a:=by simpa using D
  subst this
  have Sp:az .u64 (J g.t)=some (J6 (g.t.toNat:Nat)):=by
   have h1:g.t=(g.t.toNat:Int):=by omega
   have h2:=T.2;rw[aY];have:=wrap64 g.t.toNat (by omega);rw[<-h1]at this;rw[this]
   congr 3
  obtain⟨y1,Q,e3,f3⟩:=fZ d q.gr.wf g.t.toNat (by have:=T.2;omega);obtain⟨b4,E,e4,S,z4,k4⟩:=FB.app (Fr.j6 q f3.gr) f3.rd (by have:=C g.t.toNat;omega);have z3:=f3.gr.2.1;have y:Q.get u.size=some (.K true (cS g)):=f3.gr.get b2 g2.wf;have H:E.get u.size=some (.K true (cS g)):=by rw[k4 _ (by omega) o];exact y
  have N:aa (Z (.ptr u.size 1)) E.get=some (J g.v):=ag H rfl;have I:aa (Z (.ptr u.size 1)) Q.get=some (J g.v):=ag y rfl;have e5:=rq (s:=E) d U;obtain⟨y2,u6,e6,V⟩:=fZ d S.gr.wf (cZ g.v) (fE U);obtain⟨b7,u7,e7,f7,z7,k7⟩:=FB.app (Fr.j6 S V.gr) V.rd (by have:=C g.t.toNat;have:=C (cZ g.v);rw[aI];omega);refine⟨u7,b7,0,_,gN 0 g r,?_,f7,.inr ⟨0,g,rfl,rfl,by unfold I6;omega,rfl⟩,by simp[hU,bg],by have:=C g.t.toNat;have:=C (cZ g.v);rw[aI,aI];omega⟩;unfold oI;have k0:((0:Nat):Int)=0:=rfl;rw[k0]at ix Sn;have w1:IntKind.i64.wrap 1=((0+1:Nat):Int):=rfl;generalize R (d+1)=rr,u.size=us,cZ g.v=zv at*;generalize(zv:Int)=zz,(g.t.toNat:Int)=tn,((0+1:Nat):Int)=K1,((g::r).length:Int)=LL at*;simp[Sn,ix,ld,e1,e2,Sz,Sp,e3,e4,N,e5,e6,e7,SA,I,w1]
 ·have Sy:=ht was (bS hj);have Sp:¬((j+1:Nat):Int)=0:=by omega
  have w2:IntKind.i64.wrap (((j+1:Nat):Int)-1)=(j:Int):=by rw[aw _ (by omega) (by omega)];omega
  have Sr:=hu.gr (λc hc=>bh (G c hc) Y.gr.2.1) g2;obtain⟨c',p',Sm,_,Sv,O⟩:=nJ.CK Sr (n:=(j:Int)) rfl hj;have Sj:c'<s0.size:=G c' (mM Sm);have Sl:W6 (a.t-was.t)=W6 (a.t-was.t):=rfl;have e5:=rq (s:=u2) d (ei (W6 (a.t-was.t)-step));obtain⟨y1,Q,e3,f3⟩:=fZ d q.gr.wf (cZ (W6 (W6 (a.t-was.t)-step))) (fE (ei _));obtain⟨b4,E,e4,S,z4,k4⟩:=FB.app (Fr.j6 q f3.gr) f3.rd (by have:=C (cZ (W6 (W6 (a.t-was.t)-step)));omega);have z3:=f3.gr.2.1;have y:Q.get u.size=some (.K true (cS a)):=f3.gr.get b2 g2.wf;have H:E.get u.size=some (.K true (cS a)):=by rw[k4 _ (by omega) o];exact y
  have N:aa (Z (.ptr u.size 1)) E.get=some (J a.v):=ag H rfl;have I:aa (Z (.ptr u.size 1)) Q.get=some (J a.v):=ag y rfl;have Ss:Q.get c'=u2.get c':=f3.gr.2.2 c' (by have:=q.gr.2.1;omega);have Su:E.get c'=u2.get c':=by rw[S.gr.2.2 c' Sj,q.gr.2.2 c' Sj]
  have Sx:aa (Z (.ptr c' (p'+1))) E.get=some (J was.v):=by rw[kS Su];exact O
  have Sw:aa (Z (.ptr c' (p'+1))) Q.get=some (J was.v):=by rw[kS Ss];exact O
  have e8:=rq (s:=E) d (ei (a.v-was.v));obtain⟨y2,u6,e6,V⟩:=fZ d S.gr.wf (cZ (W6 (a.v-was.v))) (fE (ei _));obtain⟨b7,u7,e7,f7,z7,k7⟩:=FB.app (Fr.j6 S V.gr) V.rd (by have:=C (cZ (W6 (W6 (a.t-was.t)-step)));have:=C (cZ (W6 (a.v-was.v)));rw[aI];omega);have Sk:l.drop (j+1)=a::l.drop (j+1+1):=by rw[cU hk,X]
  refine⟨u7,b7,W6 (a.t-was.t),_,gN (W6 (a.t-was.t)) a (l.drop (j+1+1)),?_,f7,.inr ⟨j+1,a,rfl,D,ei _,rfl⟩,?_,?_⟩
  ·unfold oI;generalize R (d+1)=rr,u.size=us at*;have s1:ah .sub (J a.t) (J was.t)=some (J (W6 (a.t-was.t))):=by rw[iR]
   have s2:ah .sub (J (W6 (a.t-was.t))) (J step)=some (J (W6 (W6 (a.t-was.t)-step))):=by rw[iR]
   have s3:ah .sub (J a.v) (J was.v)=some (J (W6 (a.v-was.v))):=by rw[iR]
   clear Sk Sl;generalize W6 (W6 (a.t-was.t)-step)=A1 at*;generalize W6 (a.t-was.t)=A2,W6 (a.v-was.v)=A3,((cZ A1:Nat):Int)=z1 at*;generalize((cZ A3:Nat):Int)=z3,((j+1+1:Nat):Int)=K2,((j+1:Nat):Int)=K1,(j:Int)=K0,(l.length:Int)=LL at*;simp[Sn,ix,ld,e1,e2,Sz,Sp,w2,Sm,Sv,s1,s2,e5,e3,e4,N,Sx,s3,e8,e6,e7,SA,I,O,Sw,w1]
  ·rw[Sk];simp[gN,bg]
  ·have:=C (cZ (W6 (W6 (a.t-was.t)-step)));have:=C (cZ (W6 (a.v-was.v)));rw[aI,aI];omega
theorem uV(d:Nat)(Sp:s.wf)(h:nJ s x l)(w:∀c,own x=some c->c<s.size)(T:ug l=true)(hv:∀a∈l,I6 a.v):∃y t,R (d+2) 155 [Z x] s=some (.c6 [.s y,.s (iz)],t)/\FB s t y (b5 l):=by
 have n:=T;unfold ug at n;rw[aM]at n;have hl:l.length<=64:=cm n.2
 have ht:∀a∈l,I6 a.t/\0<=a.t/\I6 a.v:=λa Y=>by
  have h1:=jq n.1 a Y;have h2:=hv a Y;unfold I6 at*;omega
 obtain⟨s1,V,I⟩:=pY d Sp h w (by omega);rw[n.1]at V;have Sn:=h.lens;have Sk:¬64<(l.length:Int):=by omega
 have Sl:az .u64 (J (l.length:Int))=some (J6 (l.length:Int)):=by rw[aY,wrap64 _ (by omega)]
 obtain⟨b,s2,e2,X⟩:=fZ d I.wf l.length (by omega);have h2:=h.gr w (I.trans X.gr);have H:FB s s2 b (aq l.length):=Fr.from I X
 have F:∃g,qb l 0 0 g/\aq l.length++g=b5 l:=by
  cases l with
  |nil=>exact⟨[],.inl ⟨rfl,rfl,.inl ⟨rfl,rfl⟩⟩,by simp[b5]⟩
  |cons a r=>exact⟨hU a++gN 0 a r,.inl ⟨rfl,rfl,.inr ⟨a,r,rfl,rfl⟩⟩,by simp[b5]⟩
 obtain⟨g,G,o⟩:=F
 obtain⟨j,Sr,lp,y,rfl,hF⟩:=aL (f:=oI (R (d+1)) 8192)
  (λq v u=>∃(k:Nat) (b:S) (step:Int) (acc g:Bs),q+k=l.length/\v=[Z x,Z b,J step,Z x,J l.length,J k]/\FB s u b acc/\qb l k step g/\acc++g=b5 l/\acc.length<=22*k+11)
  (λj u=>∃y,j = .exit 0 [Z y]/\FB s u y (b5 l)) (by
  rintro q v u ⟨k,b,step,acc,g,hq,rfl,Sj,G,o,N⟩;by_cases hk:k<l.length
  ·left;obtain⟨u',b',B,C,z,e,O,U,E,D⟩:=CS d h w Sj G hk hl ht N;exact⟨_,u',q-1,e,by omega,k+1,b',B,C,z,by omega,rfl,O,U,by rw[E,o],D⟩
  ·right;have Q:k=l.length:=by omega
   subst Q;have:=x4 G (au _);subst this;rw[lg]at o;subst o;refine⟨.exit 0 [Z b],u,?_,(λv h=>by cases h),b,rfl,Sj⟩;unfold oI;simp)
  8192 l.length _ s2 ⟨0,b,0,aq l.length,g,by omega,rfl,H,G,o,by have:=aX l.length;omega⟩ (by omega)
 refine⟨y,Sr,?_,hF⟩;rw[Bd];unfold f155;have Sm:((0:Nat):Int)=0:=rfl;rw[Sm]at lp;generalize R (d+1)=rr at*;simp[V,Sn,Sk,Sl,e2,lp,aD,a8,bD]
theorem MK(d:Nat)(y:s.wf)(h:nJ s x l)(j:∀c,own x=some c->c<s.size)(e:ug l=false)(q:l.length<=8000):∃t,R (d+2) 155 [Z x] s=some (.c6 [.s .av,.s (.int .i64 1)],t)/\Gr s t:=by
 obtain⟨w,g,o⟩:=pY d y h j q;have r:=h.lens;refine⟨w,?_,o⟩;rw[Bd];unfold f155;unfold ug at e;cases k:cx (-1) l with
 |false=>
  rw[k]at g;generalize R (d+1)=u at*;simp[g,aD,a8]
 |true=>
  rw[k]at g e;rw[dX]at e
  have n:64<(l.length:Int):=by
   have:¬l.length<=64:=λh=>by rw[dw h]at e;cases e
   omega
  generalize R (d+1)=u at*;simp[g,r,n,aD,a8]
abbrev Ag(s0 s:St)(x:S)(l:List gq):Prop:=Fr 2 s0 s x l.length (cells cS l)
theorem Ag.lit{e:gq}(h:Ag s0 s x l)(u:l.length<=1000000) :
 ∃x' t d,aE s (aN 1 (aA [iz,iz] [(0,2,AS e)]))=some (Z (.sl s.size 0 1 (.known 1)),d)/\aF 2 16 (Z x) (Z (.sl s.size 0 1 (.known 1))) d=some (Z x',t)/\Ag s0 t x' (l++[e])/\s.size<=t.size/\d=s.push (.K true (cS e)) ∧
  (∀b,b<s.size->own x≠some b->t.get b=s.get b)/\(own x'=none\/own x'=own x\/∃c,own x'=some c/\s.size<=c):=by
 have L:=Fr.lit 2 h.gr.1 (n:=1) (vs:=cells cS [e]) (by simp[cS]);obtain⟨x',t,g,f,q,k,n⟩:=(h.j6 L.gr).mo (by_:=16) (by omega) L.rd.src (by simp[cS]) (by omega);refine⟨x',t,_,rfl,g,?_,bl L.gr.2.1 q,rfl,λb j o=>by rw[k b (by have:=L.gr.2.1;omega) o,L.gr.2.2 b j],?_⟩
 ·unfold Ag;rw[dK,aI];exact f
 ·rcases n with n | n | ⟨c,n,r⟩
  ·exact .inl n
  ·exact .inr (.inl n)
  ·exact .inr (.inr ⟨c,n,by have:=L.gr.2.1;omega⟩)
end
section
variable {s t u s0:St}{x y b lx bx:S}{l acc:List gq}{bs:Bs}{p:Nat}{r:Rr}
theorem Ag.ra(h:Ag s u lx acc)(g:s.size<=p)(d:own lx≠some p)(f:t.wf)(i:t.size=u.size)(b:∀c,c≠p->t.get c=u.get c):Ag s t lx acc:=by
 refine⟨⟨f,by have:=h.gr.2.1;omega,λc a=>by rw[b c (by omega),h.gr.2.2 c a]⟩,h.ow.keep λc a=>b c λe=>d (by rw[a,e]),λc a => ?_⟩;have:=h.new c a;omega
theorem CM(d:Nat){step:Int}{m o:Nat}(hp:s.size<=p)(hr:u.get p=some (.K true (cR bx r)))(SD:RB s bx bs)(Sm:∀c,own bx=some c->c<s.size)(hl:bs.length<=100000)(ha:r.at_<=bs.length)(hx:Ag s u lx acc)(w:own lx≠some p)
 (C:r.bad=false) (hm:acc.length+(m+1)=o) (hc:o<=64) :
 ∃u' S z E r',lB (R (d+2)) 8192 [Z bx,Z (.ptr p 0),Z lx,J step,J o,J acc.length] u=some (.normal [Z bx,Z (.ptr p 0),Z S,J E,J o,J z.length],u') ∧
  u'.get p=some (.K true (cR bx r'))/\r'.at_<=bs.length/\Ag s u' S z/\own S≠some p/\z.length=acc.length+1/\fP bs m z E r'=fP bs (m+1) acc step r:=by
 have SA:=hx.gr.wf;have SF:=SA.lt hr;have rb:∀{v:St},Gr s v->RB v bx bs:=λg=>Rd.gr SD Sm g
 have Sk:(acc.length:Int)<(o:Int):=by omega
 have w1:IntKind.i64.wrap ((acc.length:Int)+1)=((acc.length+1:Nat):Int):=by rw[aw _ (by omega) (by omega)];omega
 have q2:aa (Z (.ptr p 2)) u.get=some (B false):=ag hr (by simp[cR,C]);obtain⟨T,e1,b1,z1,H,Sx,n1,k1⟩:=vF d SA hr (rb hx.gr) hl ha;have F:=hx.ra hp w H z1 k1;have v1:=uv (s:=T) (d+1) n1;have SI:az .i64 (J6 ((nx bs r).1:Int))=some (J (W6 ((nx bs r).1:Nat))):=by rw[aY]
 cases D:acc.getLast? with
 |none=>
  have Sl:acc=[]:=uy.1 D;subst Sl;obtain⟨u2,e2,b2,z2,Sv,SB,n2,k2⟩:=vF d H b1 (rb F.gr) hl Sx;have Sr:=F.ra hp w Sv z2 k2;have v2:=uv (s:=u2) (d+1) n2;obtain⟨e,N⟩:=aZ (⟨W6 ((nx bs r).1:Nat),fc (nx bs (nx bs r).2).1⟩:gq);obtain⟨x',G,u3,nw,Sj,f4,z4,SG,X,n4⟩:=Ag.lit (e:=e) Sr (by simp)
  have Q:own x'≠some p:=λh=>by
   rcases n4 with n | n | ⟨c,n,hc⟩
   ·rw[n]at h;cases h
   ·rw[n]at h;exact w h
   ·rw[n]at h;cases h;omega
  refine⟨G,x',[e],step,(nx bs (nx bs r).2).2,?_,by rw[X p (by omega) w];exact b2,SB,f4,Q,rfl,?_⟩
  ·unfold lB;have Y:aO (aA [iz,iz] [(0,1,J (W6 ((nx bs r).1:Nat))),(1,1,J (fc (nx bs (nx bs r).2).1))])=some (AS e):=by rw[N];rfl
   have k0:(([]:List gq).length:Int)=0:=rfl;have Su:(([e]:List gq).length:Int)=1:=rfl;rw[k0]at Sk ⊢;rw[Su];have w2:IntKind.i64.wrap 1=1:=rfl;clear N;generalize R (d+2)=rr,W6 ((nx bs r).1:Int)=A1 at*;generalize((nx bs r).1:Int)=A2,fc (nx bs (nx bs r).2).1=A3,((nx bs (nx bs r).2).1:Int)=A4,(o:Int)=CC at*;simp[Sk,q2,e1,SI,e2,v2,Y,nw,Sj,w2]
  ·rw[fP];simp[C,N]
 |some was=>
  have SE:0<acc.length:=by
   cases acc with
   |nil=>cases D
   |cons _ _=>simp
  obtain⟨k,hk⟩:∃k,acc.length=k+1:=⟨acc.length-1,by omega⟩
  have Sp:acc[k]? = some was:=by
   rw[mZ]at D
   rwa [hk,jC]at D
  have SC:¬(acc.length:Int)=0:=by omega
  have w2:IntKind.i64.wrap ((acc.length:Int)-1)=((k:Nat):Int):=by rw[aw _ (by omega) (by omega)];omega
  obtain⟨c',p',ix,ld,_,_⟩:=nJ.CK F.rd (n:=((k:Nat):Int)) rfl Sp;obtain⟨u2,u3,e2,e3,g3,b3,z3,Sy,Sz⟩:=Pz H was;have Sn:u3.get p=some (.K true (cR bx (nx bs r).2)):=g3.get b1 H;have U:Ag s u3 lx acc:=Fr.j6 F g3;obtain⟨G,e4,b4,z4,Sw,a4,n4,X⟩:=vF d g3.wf Sn (rb U.gr) hl Sx;have Ss:=U.ra hp w Sw z4 X;have v4:=uv (s:=G) (d+1) n4;have V:G.get T.size=some (.K true (cS was)):=by rw[X _ (by omega)];exact b3
  obtain⟨e,N⟩:=aZ (⟨W6 (was.t+W6 (step+fc (nx bs r).1)),W6 (was.v+fc (nx bs (nx bs r).2).1)⟩:gq);obtain⟨x',u6,u5,nw,Sj,f6,z6,SH,k6,n6⟩:=Ag.lit (e:=e) Ss (by omega)
  have Q:own x'≠some p:=λh=>by
   rcases n6 with n | n | ⟨c,n,hc⟩
   ·rw[n]at h;cases h
   ·rw[n]at h;exact w h
   ·rw[n]at h;cases h;omega
  have I:(acc++[e]).length=acc.length+1:=by simp
  have O:∀(P:Nat) (y:MB) (q j:Nat) (bk:er),(q,j,bk)∈wC P G.size y []->j≠T.size:=λP y q j bk hm=>by
   rcases qQ hm with rfl | hm
   ·omega
   ·cases hm
  refine⟨u6,x',acc++[e],W6 (step+fc (nx bs r).1),(nx bs (nx bs r).2).2,?_,by rw[k6 p (by omega) w];exact b4,a4,f6,Q,I,?_⟩
  ·have SJ:∀P y,aa (Z (.ptr T.size 0)) (cl P G.get (wC 12 G.size y []))=some (J was.t):=λP y=>(xS V b3 (x := .int .i64 was.t) rfl (O _ _)).trans Sy
   have o2:∀P y,aa (Z (.ptr T.size 1)) (cl P G.get (wC 12 G.size y []))=some (J was.v):=λP y=>(xS V b3 (x := .int .i64 was.v) rfl (O _ _)).trans Sz
   have s1:ah .add (J step) (J (fc (nx bs r).1))=some (J (W6 (step+fc (nx bs r).1))):=by rw[cw]
   have s2:ah .add (J was.t) (J (W6 (step+fc (nx bs r).1)))=some (J (W6 (was.t+W6 (step+fc (nx bs r).1)))):=by rw[cw]
   have s3:ah .add (J was.v) (J (fc (nx bs (nx bs r).2).1))=some (J (W6 (was.v+fc (nx bs (nx bs r).2).1))):=by rw[cw]
   have Y:aO (aA [iz,iz] [(0,1,J (W6 (was.t+W6 (step+fc (nx bs r).1)))),(1,1,J (W6 (was.v+fc (nx bs (nx bs r).2).1)))])=some (AS e):=by rw[N];rfl
   unfold lB;rw[I];clear N O;generalize R (d+2)=rr,W6 (was.t+W6 (step+fc (nx bs r).1))=T1 at*;generalize W6 (step+fc (nx bs r).1)=T2,W6 (was.v+fc (nx bs (nx bs r).2).1)=T3 at*;generalize fc (nx bs (nx bs r).2).1=A3,fc (nx bs r).1=A5,((nx bs (nx bs r).2).1:Int)=A4,((nx bs r).1:Int)=A2,T.size=us,((acc.length+1:Nat):Int)=N1,(acc.length:Int)=N0,((k:Nat):Int)=K0,(o:Int)=CC at*;simp[Sk,q2,SC,e1,v1,s1,w2,ix,ld,e2,e3,Sy,s2,Sz,e4,v4,s3,Y,nw,Sj,w1,SJ,o2]
  ·rw[fP];simp[C,N,D]
theorem tT(bs:Bs)(d:∀r,(nx bs r).1<2 ^ 64):∀(m:Nat) (acc:List gq) (step:Int) (r:Rr),(∀a∈acc,I6 a.v)->∀a∈(fP bs m acc step r).1,I6 a.v
 | 0,acc,step,r,h,a,c=>h a c
 |m+1,acc,step,r,h,a,c=>by
  rw[fP]at c;split at c
  ·exact h a c
  ·split at c
   ·refine tT bs d m _ _ _ (λb hb => ?_) a c;rw[df]at hb;rw[hb];exact gD (d _)
   ·refine tT bs d m _ _ _ (λb hb => ?_) a c;rcases dP.1 hb with hb | hb
    ·exact h b hb
    ·rw[df]at hb;rw[hb];exact ei _
theorem pn(bs:Bs)(r:Rr):(nx bs r).1<2 ^ 64:=by
 unfold nx;cases h:fY bs r.at_ with
 |none=>exact(show(0:Nat)<2 ^ 64 by decide)
 |some o=>exact Ct h
theorem uZ(bs:Bs):∀(m:Nat) (acc:List gq) (step:Int) (r:Rr),(fP bs m acc step r).1.length<=acc.length+m
 | 0,acc,step,r=>by simp[fP]
 |m+1,acc,step,r=>by
  rw[fP];split
  ·simp
  ·split
   ·rename_i h;have:=uZ bs m [⟨W6 (nx bs r).1,fc (nx bs (nx bs r).2).1⟩] step (nx bs (nx bs r).2).2;simp at this;have c:acc=[]:=uy.1 h;subst c;simp;omega
   ·rename_i was h;have:=uZ bs m (acc++[⟨W6 (was.t+W6 (step+fc (nx bs r).1)),W6 (was.v+fc (nx bs (nx bs r).2).1)⟩]) (W6 (step+fc (nx bs r).1)) (nx bs (nx bs r).2).2;simp at this;omega
theorem Gj(d:Nat){cnt m:Nat}{step:Int}(hp:s.size<=p)(t:u.get p=some (.K true (cR bx r)))(V:RB s bx bs)(F:∀c,own bx=some c->c<s.size)(hl:bs.length<=100000)(E:r.at_<=bs.length)(y:Ag s u lx acc)(n:own lx≠some p)
 (Sj:acc.length+m=cnt) (X:cnt<=64) :
 ∃z g,loops (lB (R (d+2)) 8192) 8192 [Z bx,Z (.ptr p 0),Z lx,J step,J cnt,J acc.length] u=some (.exit 0 [Z bx,Z (.ptr p 0),Z g],z) ∧
  z.get p=some (.K true (cR bx (fP bs m acc step r).2))/\Ag s z g (fP bs m acc step r).1:=by
 obtain⟨D,G⟩:=aZ (fP bs m acc step r)
 obtain⟨j,Sk,lp,g,rfl,T,U⟩:=aL (f:=lB (R (d+2)) 8192)
  (λq v u=>∃(lx:S) (acc:List gq) (step:Int) (r:Rr),acc.length+q=cnt/\v=[Z bx,Z (.ptr p 0),Z lx,J step,J cnt,J acc.length]/\u.get p=some (.K true (cR bx r))/\r.at_<=bs.length/\Ag s u lx acc/\own lx≠some p/\fP bs q acc step r=D)
  (λj u=>∃lx,j = .exit 0 [Z bx,Z (.ptr p 0),Z lx]/\u.get p=some (.K true (cR bx D.2))/\Ag s u lx D.1) (by
  rintro q v u ⟨lx,acc,step,r,hq,rfl,t,E,y,n,C⟩;cases q with
  |zero=>
   right;have Y:acc.length=cnt:=by omega
   refine⟨.exit 0 [Z bx,Z (.ptr p 0),Z lx],u,?_,(λv h=>by cases h),lx,rfl,by rw[<-C];exact t,by rw[<-C];exact y⟩;unfold lB;rw[Y];simp
  |succ q=>
   cases k:r.bad with
   |true=>
    right;have q2:aa (Z (.ptr p 2)) u.get=some (B true):=ag t (by simp[cR,k]);have N:(acc.length:Int)<(cnt:Int):=(by omega);have x:D=(acc,r):=(by rw[<-C,fP,af k]);refine⟨.exit 0 [Z bx,Z (.ptr p 0),Z lx],u,?_,(λv h=>by cases h),lx,rfl,by rw[x];exact t,by rw[x];exact y⟩;unfold lB;simp[N,q2]
   |false=>
    left;obtain⟨z,g,w,o,r',e,I,H,Q,x',l',O⟩:=CM d hp t V F hl E y n k hq X (step:=step);exact⟨_,z,q,e,rfl,g,w,o,r',by omega,rfl,I,H,Q,x',by rw[O,C]⟩)
  8192 m _ u ⟨lx,acc,step,r,Sj,rfl,t,E,y,n,G.symm⟩ (by omega)
 rw[<-G];exact⟨Sk,g,lp,T,U⟩
def Hq(o:Option (List gq))(y:S):T:=match o with
 |some l => .c6 [.s y,.s (iz)]
 |none => .c6 [.s .av,.s (.int .i64 2)]
theorem IB(d:Nat)(Sl:s.wf)(O:RB s bx bs)(o:∀c,own bx=some c->c<s.size)(hl:bs.length<=8000):∃y t,R (d+4) 119 [Z bx] s=some (Hq (qF bs) y,t)/\Gr s t/\∀l,qF bs=some l->Ag s t y l:=by
 obtain⟨s1,q⟩:=aZ (s.push (.K true (cR bx ⟨0,false⟩)));have x:aO (aA [.av,iz,.bool false] [(0,1,Z bx)])=some (.v (.agg (cR bx ⟨0,false⟩))):=rfl;have E:aE s (b6 (.v (.agg (cR bx ⟨0,false⟩))))=some (Z (.ptr s.size 0),s1):=by rw[q];rfl
 have F:Gr s s1:=by rw[q];exact Gr.push Sl _
 have Y:s1.get s.size=some (.K true (cR bx ⟨0,false⟩)):=by rw[q];exact St.ec
 have Q:RB s1 bx bs:=Rd.gr O o F;obtain⟨s2,r,b2,z2,T,X,l2,k2⟩:=EA d F.wf Y Q (by omega) (cc _) (most:=64) (by decide);have g2:Gr s s2:=⟨T,by have:=F.2.1;omega,λc C=>by rw[k2 c (by omega),F.2.2 c C]⟩;have x2:Ag s s2 .av []:=⟨g2,Ow.nil 2 s2,λc C=>by cases C⟩;obtain⟨s3,lx,u,U,f3⟩:=Gj (d+1) (step:=0) (m:=(eM bs 64 ⟨0,false⟩).1) (au _) b2 O o (by omega) X x2 (λh=>by cases h) (by simp) l2;obtain⟨l,H⟩:=aZ ((fP bs (eM bs 64 ⟨0,false⟩).1 [] 0 (eM bs 64 ⟨0,false⟩).2).1);obtain⟨bad,N⟩:∃b,b=(fP bs (eM bs 64 ⟨0,false⟩).1 [] 0 (eM bs 64 ⟨0,false⟩).2).2.bad:=⟨_,rfl⟩;have hv:∀a∈l,I6 a.v:=by rw[H];exact tT bs (pn bs) _ _ _ _ (λa ha=>by cases ha)
 have Sk:l.length<=64:=by
  have:=uZ bs (eM bs 64 ⟨0,false⟩).1 [] 0 (eM bs 64 ⟨0,false⟩).2;rw[<-H]at this;simp at this;omega
 rw[<-H]at f3;have G:qF bs=if(bad || !ug l)=true then none else if b5 l=bs then some l else none:=by unfold qF;rw[H,N]
 have D:∀c,own lx=some c->c<s3.size:=λc C=>(f3.new c C).2
 rw[Jk];unfold f119;have Sj:(([]:List gq).length:Int)=0:=rfl;rw[Sj]at u;have J:((64:Nat):Int)=64:=rfl;rw[J]at r;cases e:ug l with
 |false=>
  obtain⟨g,j,V⟩:=MK (d+1) f3.gr.wf f3.rd D e (by omega);have w:aa (Z (.ptr s.size 2)) g.get=some (B bad):=ag (V.get U f3.gr.wf) (by rw[N];rfl);have n:qF bs=none:=by rw[G,af (by rw[e];simp)]
  rw[n];refine⟨.av,g,?_,f3.gr.trans V,λl h=>by cases h⟩;generalize R (d+3)=S at*;cases bad with
  |true=>simp[x,E,r,u,j,ai,w,aD,a8,Hq]
  |false=>simp[x,E,r,u,j,ai,w,aD,a8,Hq]
 |true=>
  obtain⟨y,g,j,k⟩:=uV (d+1) f3.gr.wf f3.rd D e hv;have w:aa (Z (.ptr s.size 2)) g.get=some (B bad):=ag (k.gr.get U f3.gr.wf) (by rw[N];rfl);have h4:RB g bx bs:=Rd.gr O o (f3.gr.trans k.gr);have z:=qh (d+2) k.rd h4;simp only[aH,Nat.reduceAdd]at j z;cases bad with
  |true=>
   have n:qF bs=none:=by rw[G,af (by simp)]
   rw[n];refine⟨.av,g,?_,f3.gr.trans k.gr,λl h=>by cases h⟩;generalize R (d+3)=S at*;simp[x,E,r,u,j,ai,w,aD,a8,Hq]
  |false=>
   by_cases I:b5 l=bs
   ·have n:qF bs=some l:=(by rw[G,e];simp[I]);rw[n]
    refine⟨lx,g,?_,f3.gr.trans k.gr,λl' h=>by
     cases h;exact Fr.j6 f3 k.gr⟩
    rw[aK I]at z;generalize R (d+3)=S at*;simp[x,E,r,u,j,ai,w,z,aD,a8,Hq]
   ·have n:qF bs=none:=(by rw[G,e];simp[I]);rw[n];refine⟨.av,g,?_,f3.gr.trans k.gr,λl h=>by cases h⟩;rw[aR I]at z;generalize R (d+3)=S at*;simp[x,E,r,u,j,ai,w,z,aD,a8,Hq]
end
structure Sg where
 i:Int
 f:Int
 o:Int
 l:List gq
theorem B0:∀(l:List gq) (step:Int) (was:gq),(gN step was l).length<=22*l.length
 | [],_,_=>by simp[gN]
 |a::r,step,was=>by
  have c:=B0 r (W6 (a.t-was.t)) a;have d:=aX (cZ (W6 (W6 (a.t-was.t)-step)));have e:=aX (cZ (W6 (a.v-was.v)));simp only[gN,aI,bB];omega
theorem CO(l:List gq):(b5 l).length<=11+22*l.length:=by
 cases l with
 |nil=>have:=aX 0;simp[b5];omega
 |cons a r=>
  have c:=B0 r 0 a;have d:=aX (r.length+1);have e:=aX a.t.toNat;have g:=aX (cZ a.v);simp only[b5,hU,aI,bB];omega
section
variable {s t u s0:St}{x y b lx bx:S}{l acc:List gq}{bs:Bs}{p:Nat}{r:Rr}{g:Sg}
def ef:List Nat->Bs
 | []=>[]
 |n::r=>aq n++ef r
theorem xP:∀a b:List Nat,ef (a++b)=ef a++ef b
 | [],b=>rfl
 |n::r,b=>by simp[ef,xP r b,bg]
theorem sn:∀l:List Nat,(ef l).length<=11*l.length
 | []=>by simp[ef]
 |n::r=>by
  have c:=sn r;have d:=aX n;simp only[ef,aI,bB];omega
end
section
variable {s t u s0:St}{x y b lx bx:S}{l acc:List gq}{bs:Bs}{p:Nat}{r:Rr}{g:Sg}
theorem L2(d:Nat)(k:s.wf)(q:Nat):∃y t,R (d+1) 160 [I .u32 q] s=some (Z y,t)/\FB s t y (four q):=by
 rw[JG];unfold f160;have a:=PS s (q%256) (q / 2 ^ 8%256) (q / 2 ^ 16%256) (q / 2 ^ 24%256)
 have j:U (four q)=[.int .u8 (q%256:Nat),.int .u8 (q / 2 ^ 8%256:Nat),.int .u8 (q / 2 ^ 16%256:Nat),.int .u8 (q / 2 ^ 24%256:Nat)]:=by
  simp only[U,four,eE,jz,ey]
 rw[<-j]at a;have f:=gx q;have b:=gx (q / 2 ^ 8);have c:=gx (q / 2 ^ 16);have e:=gx (q / 2 ^ 24);have g:ah .shr (I .u32 q) (J6 8)=some (I .u32 ((q / 2 ^ 8:Nat))):=gW .u32 q 8 (by decide);have h:ah .shr (I .u32 q) (J6 16)=some (I .u32 ((q / 2 ^ 16:Nat))):=gW .u32 q 16 (by decide);have i:ah .shr (I .u32 q) (J6 24)=some (I .u32 ((q / 2 ^ 24:Nat))):=gW .u32 q 24 (by decide);refine⟨_,_,?_,Fr.lit 1 k (n:=4) (vs:=U (four q)) rfl⟩;generalize s.push (.K true (U (four q)))=t at a ⊢;generalize((q / 2 ^ 8%256:Nat):Int)=l at a b ⊢;generalize((q / 2 ^ 16%256:Nat):Int)=m at a c ⊢;generalize((q / 2 ^ 24%256:Nat):Int)=o at a e ⊢;generalize((q%256:Nat):Int)=a0 at a f ⊢;generalize((q / 2 ^ 8:Nat):Int)=p at g b ⊢;generalize((q / 2 ^ 16:Nat):Int)=r at h c ⊢;generalize((q / 2 ^ 24:Nat):Int)=u at i e ⊢;simp[f,g,b,h,c,i,e,a]
end
section
variable {s t u s0:St}{x y b lx bx:S}{l acc:List gq}{bs:Bs}{p:Nat}{r:Rr}{g:Sg}
theorem RB.upto(h:RB s x bs){hi:Nat}(d:hi<=bs.length):∃y,aB 1 (Z x) none (some (J hi)) none=some (Z y)/\RB s y (bs.take hi)/\(own y=none\/own y=own x):=by
 obtain⟨y,a,b,c⟩:=Rd.upto h d;refine⟨y,a,?_,c⟩;rw[dZ,yq]at b;unfold RB
 rwa [bb,gp d]
theorem RB.piece(h:RB s x bs){lo hi:Nat}(d:lo<=hi)(e:hi<=bs.length):∃y,aB 1 (Z x) (some (J lo)) (some (J hi)) none=some (Z y)/\RB s y ((bs.drop lo).take (hi-lo))/\(own y=none\/own y=own x):=by
 obtain⟨y,a,b,c⟩:=Rd.piece h d e;refine⟨y,a,?_,c⟩;rw[dZ,dZ,yp,yq]at b;unfold RB
 rwa [bb,fK,gp (by omega)]
theorem RB.pS(h:RB s x bs){lo:Nat}(d:lo<=bs.length):∃y,aB 1 (Z x) (some (J lo)) none none=some (Z y)/\RB s y (bs.drop lo)/\(own y=none\/own y=own x):=by
 obtain⟨y,a,b,c⟩:=Rd.pS h d;refine⟨y,a,?_,c⟩;rw[dZ,yp]at b;unfold RB
 rwa [fK]
end
theorem Dt(a b:Nat)(c:a<2 ^ 32)(d:b<2 ^ 32):ah .or (I .u32 a) (I .u32 b)=some (I .u32 ((a ||| b:Nat))):=by
 have h:a ||| b<2 ^ 32:=lN c d
 show some (I .u32 (IntKind.u32.wrap ((BitVec.ofInt 32 a ||| BitVec.ofInt 32 b).toNat:Nat)))=_
 rw[Ec,jW 32 a c,jW 32 b d,wrap32,eU (by omega)]
theorem zB(a b:Nat)(h:a*2 ^ b<2 ^ 32)(f:b<32):ah .shl (I .u32 a) (J6 b)=some (I .u32 ((a*2 ^ b:Nat))):=by
 have e:min b 32=b:=by omega
 have d:¬((b:Int)<0):=by omega
 have c:(a:Int)*2 ^ b=((a*2 ^ b:Nat):Int):=by push_cast;rfl
 simp only[ah,pI,ae d,iY,IntKind.bits,e,c,wrap32];rw[eU (by omega)]
section
variable {s t u s0:St}{x y b lx bx:S}{l acc:List gq}{bs:Bs}{p:Nat}{r:Rr}{g:Sg}
theorem PX{x y:S}{n:Nat}(h:own y=none\/own y=own x)(e:∀c,own x=some c->c<n):∀c,own y=some c->c<n:=λc d=>by
 rcases h with h | h
 ·rw[h]at d;cases d
 ·rw[h]at d;exact e c d
theorem CQ(b:s.wf):∃a,aE s (a6 [iz,iz,iz,iz,.av,.av])=some (Z (.ptr s.size 0),a)/\Gr s a/\a.get s.size=some (.K true [iz,iz,iz,iz,.av,.av])/\a.size=s.size+1:=
 ⟨_,rfl,Gr.push b _,St.ec,by simp⟩
end
theorem GI{n:Nat}(h:n<2 ^ 32):((n%256 ||| n / 256%256*2 ^ 8) ||| n / 65536%256*2 ^ 16) ||| n / 16777216%256*2 ^ 24=n:=by
 rw[vI _ _ 8 (by omega),vI _ _ 16 (by omega),vI _ _ 24 (by omega)];omega
section
variable {s t u s0:St}{x y b lx bx:S}{l acc:List gq}{bs:Bs}{p:Nat}{r:Rr}{g:Sg}
theorem tg{i:Nat}{w:Bool}{a:eG}{m:Mem}(h:m i=some (.K w (cI a))):ay 5 (Z (.ptr i 0)) m=some (AI a):=by
 simp[ay,h,cI]
theorem p2{i:Nat}{vs:List S}{a:eG}(h:s.get i=some (.K true vs))(c:vs.length=5):aj 5 (Z (.ptr i 0)) (AI a) s=some (tt,s.set i (.K true (cI a))):=by
 have b:(V.agg (cI a)).cells.length=5/\0+5<=vs.length:=⟨rfl,by omega⟩;simp only[aj,h,af b];rw[show(V.agg (cI a)).cells=cI a from rfl,cK (by rw[c];rfl)]
theorem CR(b:s.wf):∃a,aE s (a6 [iz,iz,iz,iz,.int .u32 0])=some (Z (.ptr s.size 0),a)/\Gr s a/\a.get s.size=some (.K true [iz,iz,iz,iz,.int .u32 0])/\a.size=s.size+1:=
 ⟨_,rfl,Gr.push b _,St.ec,by simp⟩
end
structure K7(ρ ρ':Nat->Nat)(s t:St):Prop where
 sz:s.size<=t.size
 ro:∀c,c<s.size->ρ' c=ρ c
 kp:∀c,c<s.size->7<=ρ c->t.get c=s.get c
def A5(ρ:Nat->Nat)(n:Nat):Nat->Nat:=λc=>if c<n then ρ c else 9
theorem iH{ρ:Nat->Nat}{n c:Nat}(h:c<n):A5 ρ n c=ρ c:=af h
theorem ED{ρ:Nat->Nat}{n c:Nat}(h:n<=c):A5 ρ n c=9:=ae (by omega)
section
variable {ρ ρ':Nat->Nat}{s t:St}{D:w9}{room:Int}{fs fs':List Fl}{l:List bM}{q:gJ}{sure:Nat}{i m:Nat}{e:bM}{n:Bs}{y bx:S}{xs:List S}{g:Sg}
theorem bU.k9(h:bU ρ s D room fs l q sure)(g:Gr s t):bU (A5 ρ s.size) t D room fs l q sure:=(h.R7 λc a=>iH a).gr g
theorem O4(fs:List Fl):(ib fs).length=fs.length:=by simp[ib]
end
section
variable {ρ ρ':Nat->Nat}{s t:St}{D:w9}{room:Int}{fs fs':List Fl}{l:List bM}{q:gJ}{sure:Nat}{i m n:Nat}{e:bM}{y z bx:S}{xs:List S}{g:Sg}{ls:List eG}{P:eG->Bool}{f:FuncId}
theorem R9.Ia(h:Rd 5 s z ls.length (cells cI ls)){j:Nat}{k:Int}{a:eG}(f:k=j)(d:ls[j]? = some a):∃c p,ar 5 (Z z) (J k)=some (Z (.ptr c p))/\ay 5 (Z (.ptr c p)) s.get=some (AI a):=by
 obtain⟨c,p,e,g,b⟩:=Rd.at h f (bq.1 d).1;rw[ji eY d]at b;exact⟨c,p,e,b⟩
theorem IY{Q:Program}{aC:bc}{a:List (Nat×Nat)}{args:List T}{σ:St}(b:fO Q f=true):dyn Q aC (Z (.jX f a)) args σ=aC f (args++a.map yF) σ:=by
 simp only[dyn,b,bY]
theorem yy(d:Nat)(Sk:s.wf)(Q:Rd 5 s z ls.length (cells cI ls))(F:∀c,own z=some c->c<s.size)(hl:ls.length<=8000)(hc:fO Tryz.prog f=true)
 (o:∀a∈ls,∀u,Gr s u->∃r,R d f [AI a,Z (.ptr n 0)] u=some (B (P a),r)/\Gr u r) :
 ∃t,R (d+2) 49 [Z z,Z (.jX f [(n,0)])] s=some (B (ls.any P),t)/\Gr s t:=by
 have U:=Q.lens
 have G:∃(t:St) (k:Int),R (d+1) 98 [Z z,Z (.jX f [(n,0)])] s=some (J k,t)/\Gr s t/\(0<=k↔ls.any P=true):=by
  obtain⟨j,X,H,hj,g⟩:=aL (f:=vl (R d) 8192)
   (λq v u=>∃(k:Nat),q+k=ls.length/\v=[Z z,Z (.jX f [(n,0)]),J ls.length,J k]/\Gr s u/\(ls.drop k).any P=ls.any P)
   (λj u=>((j = .exit 0 []/\ls.any P=false)\/∃k:Nat,j = .ret (J k)/\ls.any P=true)/\Gr s u) (by
   rintro q v u ⟨k,hq,rfl,g,e⟩;by_cases w:k<ls.length
   ·obtain⟨a,N⟩:=aZ (ls[k]);have x:ls[k]? = some a:=(by rw[aU w,N]);rw[cU w,<-N,z7]at e;obtain⟨c,p,S,T⟩:=R9.Ia (Rd.gr Q F g) (k:=(k:Int)) rfl x;obtain⟨r,D,C⟩:=o a (bS x) u g
    have y:dyn Tryz.prog (R d) (Z (.jX f [(n,0)])) [AI a] u=some (B (P a),r):=by
     rw[IY hc];exact D
    have I:(k:Int)<(ls.length:Int):=(by omega);have w1:IntKind.i64.wrap ((k:Int)+1)=((k+1:Nat):Int):=(by rw[aw _ (by omega) (by omega)];omega);cases O:P a with
    |true=>
     right;rw[O]at y e;refine⟨.ret (J k),r,?_,(λv h=>by cases h),.inr ⟨k,rfl,by rw[<-e];rfl⟩,g.trans C⟩;unfold vl;generalize R d=V at*;simp[I,S,T,y]
    |false=>
     left;rw[O]at y e;refine⟨[Z z,Z (.jX f [(n,0)]),J ls.length,J ((k+1:Nat):Int)],r,q-1,?_,by omega,k+1,by omega,rfl,g.trans C,by simpa using e⟩;unfold vl;generalize R d=V at*;simp[I,S,T,y,w1]
   ·right;have E:k=ls.length:=(by omega);subst E;rw[e7]at e;refine⟨.exit 0 [],u,?_,(λv h=>by cases h),.inl ⟨rfl,by rw[<-e];rfl⟩,g⟩;unfold vl;simp)
   8192 ls.length _ s ⟨0,by omega,rfl,Gr.refl Sk,by simp⟩ (by omega)
  have Sj:((0:Nat):Int)=0:=rfl;rw[Sj]at H;rcases hj with ⟨rfl,e⟩ | ⟨k,rfl,e⟩
  ·refine⟨X,-1,?_,g,by rw[e];simp⟩;rw[EP];unfold f98;simp[U,H]
  ·refine⟨X,(k:Nat),?_,g,by rw[e];simp⟩;rw[EP];unfold f98;simp[U,H]
 obtain⟨t,k,D,C,w⟩:=G;refine⟨t,?_,C⟩;rw[Nn];unfold f49
 have Y:decide ((0:Int)<=k)=ls.any P:=by
  cases h:ls.any P with
  |true=>exact aK (w.2 h)
  |false=>exact aR λh'=>by rw[w.1 h']at h;cases h
 generalize R (d+1)=V at*;simp[D,Y]
theorem Rx(a b:eG):lu (.a 5 [(0,.i),(1,.i),(2,.i),(3,.i),(4,.i)]) (AI a) (AI b)=some (B (decide (a=b))):=by
 have h:yt (.a 5 [(0,.i),(1,.i),(2,.i),(3,.i),(4,.i)]) (AI a) (AI b)=some (decide (a=b)):=by
  obtain⟨c,d,e,f,g⟩:=a;obtain⟨j,k,l,m,n⟩:=b;show some (decide (c=j)&&(decide (d=k)&&(decide (e=l)&&(decide (f=m)&&(decide (g=n)&&true)))))=some (decide (eG.mk c d e f g=eG.mk j k l m n))
  simp only[eG.mk.injEq,np,p6]
 simp only[lu,h]
theorem GN(d:Nat)(l:s.wf)(r:Rd 5 s z ls.length (cells cI ls))(j:∀c,own z=some c->c<s.size)(p:ls.length<=8000){k:Int}(q:s.get n=some (.K true [.int .i64 k])) :
 (∃t,R (d+3) 49 [Z z,Z (.jX 53 [(n,0)])] s=some (B (ls.any λa=>decide (a.i=k)),t)/\Gr s t) ∧
 ∃t,R (d+3) 49 [Z z,Z (.jX 80 [(n,0)])] s=some (B (ls.any λa=>decide (a.i=k)),t)/\Gr s t:=by
 refine⟨yy (d+1) l r j p (by kernel_rfl) λa v u h => ?_,yy (d+1) l r j p (by kernel_rfl) λa v u h => ?_⟩
 ·obtain⟨s1,b⟩:=aZ (u.push (.K true (cI a)));have f:aE u (b6 (AI a))=some (Z (.ptr u.size 0),s1):=by rw[b];rfl
  have g:Gr u s1:=by rw[b];exact Gr.push h.wf _
  have m:s1.get u.size=some (.K true (cI a)):=by rw[b];exact St.ec
  have o:aa (Z (.ptr u.size 0)) s1.get=some (J a.i):=ag m rfl;have e:aa (Z (.ptr n 0)) s1.get=some (J k):=ag ((h.trans g).get q l) rfl;refine⟨s1,?_,g⟩;rw[Nr];unfold f53;simp[f,e,o]
 ·obtain⟨s1,b⟩:=aZ (u.push (.K true (cI a)));have f:aE u (b6 (AI a))=some (Z (.ptr u.size 0),s1):=by rw[b];rfl
  have g:Gr u s1:=by rw[b];exact Gr.push h.wf _
  have m:s1.get u.size=some (.K true (cI a)):=by rw[b];exact St.ec
  have o:aa (Z (.ptr u.size 0)) s1.get=some (J a.i):=ag m rfl;have e:aa (Z (.ptr n 0)) s1.get=some (J k):=ag ((h.trans g).get q l) rfl;refine⟨s1,?_,g⟩;rw[NK];unfold f80;simp[f,e,o]
end
def kB(ls:List eG)(nm:Bs):Bool:=nm == fF||ls.any λa=>nm == bp a.i.toNat
def Et(vs:List FV):Prop:=∀v∈vs,v.nm=fF\/∃k,1<=k/\k<=64/\v.nm=bp k
theorem kT(k:Nat):bp k≠fF:=λe=>by
 have:(bp k).head? = fF.head? := by rw[e]
 simp[bp,fF]at this
section
variable {ρ ρ':Nat->Nat}{s t u:St}{D:w9}{room:Int}{fs fs':List Fl}{l:List bM}{q:gJ}{sure:Nat}{i m n:Nat}{e:bM}{y z bx:S}{xs:List S}{g:Sg}{ls:List eG}{v1:T}
theorem N4(h:∀a∈ls,1<=a.i/\a.i<=64){k:Nat}(n:1<=k)(o:k<=64):(ls.any λa=>decide (a.i=(k:Int)))=kB ls (bp k):=by
 have q:(bp k == fF)=false:=by simpa using kT k
 unfold kB;rw[q,Ed]
 have c:∀a∈ls,(decide (a.i=(k:Int)))=(bp k == bp a.i.toNat):=λa t=>by
  have:=h a t;by_cases g:a.i=(k:Int)
  ·rw[aK g];have:a.i.toNat=k:=by omega
   rw[this];simp
  ·rw[aR g]
   symm
   have:bp k≠bp a.i.toNat:=λe=>g (by
    have:=xJ ⟨n,o⟩ (j:=a.i.toNat) ⟨by omega,by omega⟩ e;omega)
   simpa using this
 induction ls with
 |nil=>rfl
 |cons a r u=>
  rw[z7,z7,c a eF,u (λb d=>h b (dC _ d)) (λb d=>c b (dC _ d))]
theorem K2(d:Nat)(h:bU ρ u D room fs l q sure)(Q:u.get n=some (.K true [.ptr D.i 0]))(SJ:ρ n≠0)(hz:Rd 5 u z ls.length (cells cI ls))(Sv:∀c,own z=some c->c<u.size/\ρ c≠0)(SE:ls.length<=8000)
 (hid:∀a∈ls,1<=a.i/\a.i<=64) (Sr:Et (ib fs)) (SB:fs.length<=1000) :
 ∃x k t τ ρ' fs',R (d+3) 29 [Z (.ptr D.i 0)] u=some (Z x,t)/\aG (Z x)=some (J k)/\loops (mw (R (d+3)) 8192) 8192 [Z (.ptr n 0),v1,Z z,Z x,J k,J 0] t=some (.exit 2 [v1],τ) ∧
  bU ρ' τ D room fs' l q sure/\ib fs'=(ib fs).filter (λv=>kB ls v.nm)/\Kp ρ ρ' u τ:=by
 have Sj:∀f∈fs,f.nm.length<=1000:=λf SU=>by
  rcases Sr (vw f) (gX SU)with e | ⟨k,_,_,e⟩
  ·rw[show f.nm=fF from e];decide
  ·rw[show f.nm=bp k from e];have:=G5 (k:=k);omega
 rcases pL (d+2) h.dk Sj SB with ⟨rfl,e⟩ | ⟨SV,e⟩
 ·refine⟨.av,0,u,u,ρ,[],e,rfl,?_,h,rfl,Kp.refl _ _⟩;rw[show(8192:Nat)=8191+1 from rfl,loops]
  have:mw (R (d+3)) (8191+1) [Z (.ptr n 0),v1,Z z,Z .av,J 0,J 0] u=some (.exit 2 [v1],u):=by
   unfold mw;simp
  rw[this]
 obtain⟨ks,Y⟩:=aZ (dL (fs.map (·.nm)));obtain⟨t,ht⟩:=aZ (u.push (.K false (ks.map S.str)));rw[<-Y,<-ht]at e;have g1:Gr u t:=by rw[ht];exact Gr.push h.nE _
 have SQ:t.get u.size=some (.K false (ks.map S.str)):=by rw[ht];exact St.ec
 have zt:t.size=u.size+1:=by rw[ht];simp
 have SD:ks.length=fs.length:=by rw[Y,(dR _).length_eq,oY]
 have N:∀nm,nm∈ks↔∃v∈ib fs,v.nm=nm:=λnm=>by
  rw[Y,(dR _).mem_iff,<-sA,gl]
 have SF:=h.k9 g1;have Su:n<u.size:=h.nE.lt Q;obtain⟨r,hr⟩:=aZ (R (d+3))
 obtain⟨jo,τ,lp,rfl,ρ',fs',H,hv,X⟩:=aL (f:=mw r 8192)
  (λq0 v w=>∃(j:Nat) (ρ':Nat->Nat) (g:List Fl),q0+j=fs.length/\v=[Z (.ptr n 0),v1,Z z,Z (.sl u.size 0 fs.length (.grown 1)),J fs.length,J j]/\bU ρ' w D room g l q sure/\ib g=(ib fs).filter (λv=>kB ls v.nm || !(ks.take j).contains v.nm)/\Kp (A5 ρ u.size) ρ' t w)
  (λjo w=>jo = .exit 2 [v1]/\∃(ρ':Nat->Nat) (g:List Fl),bU ρ' w D room g l q sure/\ib g=(ib fs).filter (λv=>kB ls v.nm)/\Kp (A5 ρ u.size) ρ' t w) (by
  rintro q0 v w ⟨j,ρ',g,hq,rfl,H,hv,G⟩;by_cases hj:j<fs.length
  ·left;obtain⟨nm,Ss⟩:=aZ (ks[j]);have Sl:ks[j]? = some nm:=by rw[aU (by omega),Ss]
   have SG:ks.take (j+1)=ks.take j++[nm]:=by rw[cM,Sl];rfl
   have SK:w.get u.size=some (.K false (ks.map S.str)):=by rw[G.kp _ (by omega) (by rw[ED (au _)];decide)];exact SQ
   have ix:ar 1 (Z (.sl u.size 0 fs.length (.grown 1))) (J j)=some (Z (.ptr u.size j)):=by
    have:=eu (e:=1) (b:=u.size) (o:=0) (c := .grown 1) (k := .i64) (n:=(j:Int)) rfl hj
    rwa [a7,dZ]at this
   have ld:aa (Z (.ptr u.size j)) w.get=some (Z (.str nm)):=ag SK (by rw[cL,Sl];rfl);have Sz:(j:Int)<(fs.length:Int):=by omega
   have w1:IntKind.i64.wrap ((j:Int)+1)=((j+1:Nat):Int):=by rw[aw _ (by omega) (by omega)];omega
   have E:∀b:Bool,b=kB ls nm->(ib fs).filter (λv=>kB ls v.nm || !(ks.take (j+1)).contains v.nm)=if b=true then ib g else DF nm (ib g):=by
    rintro b rfl;rw[hv,SG];by_cases I:kB ls nm=true
    ·rw[af I];apply Eo;intro v Sm;by_cases B:v.nm=nm
     ·rw[B,I];rfl
     ·simp[B]
    ·rw[ae I];unfold DF;rw[List.filter_filter];apply Eo;intro v Sm;by_cases B:v.nm=nm
     ·have:kB ls nm=false:=by simpa using I
      rw[B,this];simp
     ·simp[B]
   have box:∀(k:Int) (w0:St) (Sy:Nat->Nat),bU Sy w0 D room g l q sure->∃w1 w2,aE w0 (a6 [iz])=some (Z (.ptr w0.size 0),w1)/\aj 1 (Z (.ptr w0.size 0)) (J k) w1=some (tt,w2)/\aa (Z (.ptr w0.size 0)) w2.get=some (J k)/\w2.get w0.size=some (.K true [.int .i64 k])/\Gr w0 w2:=by
    intro k w0 Sy H0;have b0:(w0.push (.K true [iz])).get w0.size=some (.K true [iz]):=St.ec;have b1:((w0.push (.K true [iz])).set w0.size (.K true [.int .i64 k])).get w0.size=some (.K true [.int .i64 k]):=St.dh;exact⟨_,_,rfl,aJ b0 (by simp),ag b1 rfl,b1,⟨St.wf_set (St.bo H0.nE _) (by simp) _,by simp,λc y=>by rw[St.bO (by omega),St.j5 (by omega)]⟩⟩
   have Sx:∃v∈ib fs,v.nm=nm:=(N nm).1 (bS Sl);obtain⟨v0,SH,O⟩:=Sx;rcases Sr v0 SH with eL | ⟨k,U,V,eN⟩
   ·have Sp:nm=fF:=(by rw[<-O];exact eL);have F:=PM (s:=w) (d+2);rw[<-Sp]at F;obtain⟨w2,w3,nw,st,l3,b3,C⟩:=box 0 w ρ' H;refine⟨[Z (.ptr n 0),v1,Z z,Z (.sl u.size 0 fs.length (.grown 1)),J fs.length,J ((j+1:Nat):Int)],w3,q0-1,?_,by omega,j+1,A5 ρ' w.size,g,by omega,rfl,H.k9 C,?_,G.trans ⟨C.2.1,λc y=>iH y,λc y _=>C.2.2 c y⟩⟩
    ·unfold mw;simp only[aH,Nat.reduceAdd]at F;rw[<-hr]at F;generalize((j+1:Nat):Int)=J1,(j:Int)=J0,(fs.length:Int)=LL,w.size=ws at*;simp[Sz,ix,ld,F,nw,st,l3,w1,bD]
    ·rw[E true (by rw[Sp];unfold kB;simp),af rfl]
   ·have Sk:nm=bp k:=(by rw[<-O];exact eN);have F:=N0 (s:=w) (d+2) U V;rw[<-Sk]at F;obtain⟨w2,w3,nw,st,l3,b3,C⟩:=box k w ρ' H
    have SM:Rd 5 w3 z ls.length (cells cI ls):=hz.keep λc y=>by
     obtain⟨SP,SR⟩:=Sv c y;have:=G.sz;rw[C.2.2 c (by omega),G.kp c (by omega) (by rw[iH SP];exact SR),g1.2.2 c SP]
    have Sw:∀c,own z=some c->c<w3.size:=λc y=>by have:=Sv c y;have:=G.sz;have:=C.2.1;omega
    obtain⟨w4,T,g4⟩:=(GN d C.wf SM Sw SE b3).1;rw[N4 hid U V,<-Sk]at T;have Sn:¬((k:Nat):Int)=0:=(by omega);have H4:=(H.k9 C).gr g4;cases I:kB ls nm with
    |true=>
     rw[I]at T;refine⟨[Z (.ptr n 0),v1,Z z,Z (.sl u.size 0 fs.length (.grown 1)),J fs.length,J ((j+1:Nat):Int)],w4,q0-1,?_,by omega,j+1,A5 ρ' w.size,g,by omega,rfl,H4,?_,G.trans ⟨by have:=C.2.1;have:=g4.2.1;omega,λc y=>iH y,λc y _=>by rw[g4.2.2 c (by have:=C.2.1;omega),C.2.2 c y]⟩⟩
     ·unfold mw;have cl:tJ 53 [Z (.ptr w.size 0)] []=some (Z (.jX 53 [(w.size,0)])):=rfl;simp only[aH,Nat.reduceAdd]at F;rw[<-hr]at F T;generalize((j+1:Nat):Int)=J1,(j:Int)=J0,(fs.length:Int)=LL,((k:Nat):Int)=KK,w.size=ws at*;simp[Sz,ix,ld,F,nw,st,l3,Sn,cl,T,w1,bD]
     ·rw[E true I.symm,af rfl]
    |false=>
     rw[I]at T
     have SL:w4.get n=some (.K true [.ptr D.i 0]):=by
      have:=G.sz;rw[g4.2.2 n (by have:=C.2.1;omega),C.2.2 n (by omega),G.kp n (by omega) (by rw[iH Su];exact SJ),g1.2.2 n Su];exact Q
     have lv:aa (Z (.ptr n 0)) w4.get=some (Z (.ptr D.i 0)):=ag SL rfl;obtain⟨SO,SA,w5,SW,e5,H5,SI,SN⟩:=Ko (n:=nm) d H4 (by rw[Sk];exact nW U V);refine⟨[Z (.ptr n 0),v1,Z z,Z (.sl u.size 0 fs.length (.grown 1)),J fs.length,J ((j+1:Nat):Int)],w5,q0-1,?_,by omega,j+1,SO,SA,by omega,rfl,H5,?_,(G.trans (ρ'':=A5 ρ' w.size) (u:=w4) ⟨by have:=C.2.1;have:=g4.2.1;omega,λc y=>iH y,λc y _=>by rw[g4.2.2 c (by have:=C.2.1;omega),C.2.2 c y]⟩).trans SN⟩
     ·unfold mw;have cl:tJ 53 [Z (.ptr w.size 0)] []=some (Z (.jX 53 [(w.size,0)])):=rfl;simp only[aH,Nat.reduceAdd]at F;rw[<-hr]at F T e5;generalize((j+1:Nat):Int)=J1,(j:Int)=J0,(fs.length:Int)=LL,((k:Nat):Int)=KK,w.size=ws at*;simp[Sz,ix,ld,F,nw,st,l3,Sn,cl,T,lv,e5,w1,bD]
     ·rw[E false I.symm,ae (by decide),SI]
  ·right;have SC:j=fs.length:=by omega
   subst SC;refine⟨.exit 2 [v1],w,?_,(λv h=>by cases h),rfl,ρ',g,H,?_,G⟩
   ·unfold mw;simp
   ·rw[hv];apply Eo;intro v Sm;have h1:v.nm∈ks:=(N v.nm).2 ⟨v,Sm,rfl⟩;rw[<-SD,dE];simp[h1])
  8192 fs.length _ t ⟨0,_,fs,by omega,rfl,SF,(Er.2 λv _=>by simp).symm,Kp.refl _ _⟩ (by omega)
 have SS:((0:Nat):Int)=0:=rfl;rw[SS,hr]at lp;refine⟨_,_,t,τ,ρ',fs',e,rfl,lp,H,hv,by have:=X.sz;omega,λc y=>by rw[X.ro c (by omega),iH y],λc y hr=>by rw[X.kp c (by omega) (by rw[iH y];exact hr),g1.2.2 c y]⟩
end
def O6(vs:List FV)(bs:Bs):Prop:=(∀v∈vs,v.nm=fF->v.l=U bs)/\(vu fF vs=false->bs=[])
def Ld(ls:List eG)(N:Nat)(vs:List FV):List FV:=(Cq fF (IK fF N vs)).filter λv=>kB ls v.nm
section
variable {ρ ρ':Nat->Nat}{s t:St}{D:w9}{room:Int}{fs fs':List Fl}{l es:List bM}{q:gJ}{sure:Nat}{i m:Nat}{e:bM}{y:S}{v0 v1:T}{bs:Bs}
theorem GP(d:Nat)(h:Dk s i m room fs)(w:O6 (ib fs) bs):∃y t c,R (d+3) 42 [Z (.ptr i 0),Z (.str fF)] s=some (.c6 [.s y,.s (.int .i64 c)],t)/\Gr s t/\RB t y bs/\∀c,own y=some c->c<t.size:=by
 cases n:vu fF (ib fs)with
 |false=>
  have:=w.2 n;subst this;exact⟨.av,s,9,vb d h (uf n) mI,Gr.refl h.wf,Rd.nil 1 s,λc j=>by cases j⟩
 |true=>
  obtain⟨k,f,u,e⟩:=qI n;obtain⟨y,t,q,g,r,o⟩:=xn d h u (by rw[e];exact mI);rw[e]at q;refine⟨y,t,0,q,g,?_,λc j=>(o c j).2⟩;have x:f.l=U bs:=w.1 (vw f) (gX (bS u)) e;rw[x]at r;unfold Mx at r;rw[pe]at r;exact r
theorem xM{vs:List FV}{n:Bs}{g:FV->FV}(a:∀v,(g v).nm=v.nm)(h:Et vs):Et (wZ n g vs):=by
 intro v b;obtain⟨w,c,rfl⟩:=gl.1 b;have:(if w.nm=n then g w else w).nm=w.nm:=by split<;>simp[a]
 rw[this];exact h w c
end
def l4:gJ->List bM->Nat
 |_,[]=>0
 |q,e::r=>if cg q e=0 then l4 (ed q e) r+1 else 0
def wE:gJ->List bM->gJ
 |q,[]=>q
 |q,e::r=>if cg q e=0 then wE (ed q e) r else q
theorem Ew:∀(q:gJ) (es:List bM),l4 q es<=es.length
 |_,[]=>au _
 |q,e::r=>by
  rw[l4];split
  ·have:=Ew (ed q e) r;rw[bB];omega
  ·exact cc _
theorem AD:∀(q:gJ) (es:List bM),bT q (es.take (l4 q es))=(0,wE q es)
 |q,[]=>rfl
 |q,e::r=>by
  rw[l4,wE];by_cases h:cg q e=0
  ·rw[af h,af h,uG,bT,af h];exact AD (ed q e) r
  ·rw[ae h,ae h];rfl
section
variable {K:Nat->Prop}
variable {ρ ρ':Nat->Nat}{s t s0 s6 u:St}{D:w9}{room:Int}{fs fs':List Fl}{l es:List bM}{q:gJ}{sure:Nat}{i m b mp:Nat}{e:bM}{x y:S}{v0:T}
theorem On(d:Nat)(h:HG K s0 s b q x mp)(k:H8 q)(v:q.dV.length<=8000)(e:bM)(u:cg q e≠0):∃t,R (d+10) 96 [Z (.ptr b 0),AE e] s=some (J (cg q e),t)/\Gr s t:=by
 have c:q.l.length<=8000:=bl k.len v;obtain⟨n,j⟩:=aZ (s.size);obtain⟨s1,a⟩:=aZ (s.push (.K true (cE e)));have f:aE s (b6 (AE e))=some (Z (.ptr n 0),s1):=by rw[a,j];rfl
 have i:Gr s s1:=by rw[a];exact Gr.push h.gr.wf _
 have m:s1.get n=some (.K true (cE e)):=by rw[a,j];exact St.ec
 have w:=eA (g:=s1.get) m;obtain⟨y,o,p⟩:=wu d (h.j6 i) k c e;refine⟨y,?_,i.trans p⟩;rw[EO];unfold f96;generalize R (d+9)=r at*;simp[f,w,o,u]
theorem Oq(d:Nat)(h:bU ρ s D room fs l q sure)(F:cg q e≠0)(S:nI e):∃t,R (d+11) 44 [Z (.ptr D.p 0),AE e] s=some (B false,t)/\Gr s t:=by
 obtain⟨E,u,Q⟩:=h.ok;obtain⟨s1,j⟩:=aZ (s.push (.K true (cE e)));have k:aE s (b6 (AE e))=some (Z (.ptr s.size 0),s1):=by rw[j];rfl
 have r:Gr s s1:=by rw[j];exact Gr.push h.nE _
 have x:s1.get s.size=some (.K true (cE e)):=by rw[j];exact St.ec
 have H:=eA (g:=s1.get) x;obtain⟨y,w,n,z,Y⟩:=xu d r.wf e S;have I:=z.get x r.wf;have T:=eA (g:=w.get) I;have c:=r.trans z;have C:=h.gr c;have U:aa (Z (.ptr D.p 3)) w.get=some (Z (.ptr D.b 0)):=ag C.st rfl;obtain⟨X,J,O⟩:=On d C.hf u (by omega) e F
 have N:∀o,dW e=o->(∃t,R (d+11) 44 [Z (.ptr D.p 0),AE e] s=some (B false,t)/\Gr s t):=by
  intro o G;cases o with
  |none=>
   rw[G]at n;refine⟨w,?_,c⟩;rw[yU];unfold f44;generalize R (d+10)=V at*;simp[k,H,n,ai,bD]
  |some bs=>
   rw[G]at n;refine⟨X,?_,c.trans O⟩;rw[yU];unfold f44;generalize R (d+10)=V at*;simp[k,H,n,ai,U,T,J,F,bD]
 exact N _ rfl
theorem KP(d:Nat)(h:bU ρ s6 D room fs [] j4 0)(hy:RE s6 y es)(O:∀c,own y=some c->c<s6.size/\7<=ρ c)(hw:∀e∈es,nI e)(hl:es.length<=2000) :
 ∃ρ' a t,loops (rO (R (d+12)) 8192) 8192 [v0,Z (.ptr D.p 0),Z y,J es.length,J 0] s6=some (.exit 0 [v0,Z (.ptr D.p 0)],t)/\bU ρ' t a room fs (es.take (l4 j4 es)) (wE j4 es) 0/\s6.size<=t.size/\(a.p=D.p/\a.i=D.i/\a.m=D.m) ∧
  (∀c,c<s6.size->ρ' c=ρ c)/\∀c,c<s6.size->(ρ c=0\/7<=ρ c)->t.get c=s6.get c:=by
 obtain⟨N,hN⟩:=aZ (l4 j4 es);obtain⟨Q,hQ⟩:=aZ (wE j4 es);rw[<-hN,<-hQ]
 obtain⟨j,t,lp,rfl,G⟩:=aL (f:=rO (R (d+12)) 8192)
  (λf v u=>∃(k:Nat) (ρ':Nat->Nat) (a:w9) (F:gJ),f+k=es.length/\v=[v0,Z (.ptr D.p 0),Z y,J es.length,J k]/\bU ρ' u a room fs (es.take k) F 0/\(k+l4 F (es.drop k)=N/\wE F (es.drop k)=Q)/\s6.size<=u.size/\(a.p=D.p/\a.i=D.i/\a.m=D.m) ∧
   (∀c,c<s6.size->ρ' c=ρ c)/\∀c,c<s6.size->(ρ c=0\/7<=ρ c)->u.get c=s6.get c)
  (λj u=>j = .exit 0 [v0,Z (.ptr D.p 0)]/\∃(ρ':Nat->Nat) (a:w9),bU ρ' u a room fs (es.take N) Q 0/\s6.size<=u.size/\(a.p=D.p/\a.i=D.i/\a.m=D.m) ∧
   (∀c,c<s6.size->ρ' c=ρ c)/\∀c,c<s6.size->(ρ c=0\/7<=ρ c)->u.get c=s6.get c) (by
  rintro f v u ⟨k,ρ',a,F,hk,rfl,H,⟨o,b⟩,hz,⟨M,hi,Y⟩,x,g⟩;by_cases L:k<es.length
  ·have l:es[k]? = some es[k]:=aU L;obtain⟨e,he⟩:=aZ (es[k]);rw[<-he]at l;have w:es.drop k=e::es.drop (k+1):=by rw[cU L,he]
   rw[w,l4]at o;rw[w,wE]at b;have Sm:RE u y es:=hy.keep λc l=>g c (O c l).1 (.inr (O c l).2)
   obtain⟨p,ix,ld⟩:=Sm.QC (n:=(k:Int)) rfl l;have U:(k:Int)<(es.length:Int):=by omega
   have w1:IntKind.i64.wrap ((k:Int)+1)=((k+1:Nat):Int):=by rw[aw _ (by omega) (by omega)];omega
   obtain⟨u1,C⟩:=aZ (u.push (.K true (cE bN)));have S:aE u (a6 [iz,iz,iz,iz,iz,iz,.int .u32 0,.str []])=some (Z (.ptr u.size 0),u1):=by rw[C];rfl
   have b1:u1.get u.size=some (.K true (cE bN)):=by rw[C];exact St.ec
   have s:Gr u u1:=by rw[C];exact Gr.push H.nE _
   obtain⟨u2,E⟩:=aZ (u1.set u.size (.K true (cE e)));have T:aj 8 (Z (.ptr u.size 0)) (AE e) u1=some (tt,u2):=by rw[E];exact js b1 rfl
   have q:Gr u u2:=by
    rw[E];exact⟨St.wf_set s.wf (s.wf.lt b1) _,by simpa using s.2.1,λc l=>by rw[St.bO (by omega)];exact s.2.2 c l⟩
   have l2:ay 8 (Z (.ptr u.size 0)) u2.get=some (AE e):=eA (by rw[E];exact St.dh);have Su:(es.take k).length=k:=by rw[bb];omega
   by_cases V:cg F e=0
   ·left;rw[af V]at o b;obtain⟨Sn,D2,u3,z,H3,z3,⟨Sk,X,Sj⟩,P,k3⟩:=K5 (d+1) (H.gr q) V (hw e (bS l)) (by omega);rw[M]at z;have z2:=q.2.1;have Sl:es.take k++[e]=es.take (k+1):=(by rw[cM,l];rfl);rw[Sl]at H3;refine⟨[v0,Z (.ptr D.p 0),Z y,J es.length,J ((k+1:Nat):Int)],u3,f-1,?_,by omega,k+1,Sn,D2,ed F e,by omega,rfl,H3,⟨by omega,b⟩,by omega,⟨Sk.trans M,X.trans hi,Sj.trans Y⟩,λc l=>by rw[P c (by omega),x c l],λc l W => ?_⟩
    ·unfold rO;simp only[aH,Nat.reduceAdd]at z;clear o b w;generalize R (d+12)=r at*;simp[U,ix,ld,S,T,l2,z,w1]
    ·rw[k3 c (by omega) (by rw[x c l];exact W),q.2.2 c (by omega)];exact g c l W
   ·right;rw[ae V]at o b;obtain⟨u3,z,g3⟩:=Oq (d+1) (H.gr q) V (hw e (bS l));rw[M]at z;have A:=q.trans g3;have B:k=N:=(by omega);subst B;have z2:=A.2.1;refine⟨_,u3,?_,(λv hv=>by cases hv),rfl,ρ',a,by rw[<-b];exact H.gr A,by omega,⟨M,hi,Y⟩,x,λc l W=>by rw[A.2.2 c (by omega)];exact g c l W⟩;unfold rO;simp only[aH,Nat.reduceAdd]at z;clear o b w;generalize R (d+12)=r at*;simp[U,ix,ld,S,T,l2,z]
  ·right;have U:¬(k:Int)<(es.length:Int):=by omega
   have I:k=es.length:=by omega
   rw[I,e7]at o b;have B:k=N:=by rw[<-o];simp[l4,I]
   have hq:F=Q:=by rw[<-b];rfl
   refine⟨_,u,?_,(λv hv=>by cases hv),rfl,ρ',a,by rw[<-hq,<-B];exact H,hz,⟨M,hi,Y⟩,x,g⟩;unfold rO;simp[U]) 8192 es.length [v0,Z (.ptr D.p 0),Z y,J es.length,J 0] s6
  ⟨0,ρ,D,j4,by omega,rfl,by simpa using h,⟨by rw[ek,hN];omega,by rw[ek,hQ]⟩,au _,⟨rfl,rfl,rfl⟩,λ_ _=>rfl,λ_ _ _=>rfl⟩ (by omega)
 obtain⟨ρ',a,Sp,Sr,Ss,a4,a5⟩:=G;exact⟨ρ',a,t,lp,Sp,Sr,Ss,a4,a5⟩
end
def cO(n:Nat):Bs:=115::fz 20 n
theorem MQ(f u:Nat):fz (f+1) u≠[]:=by
 unfold fz;split<;>simp
theorem AX{u:Nat}(h:10<=u)(f:Nat):2<=(fz (f+2) u).length:=by
 rw[fz,dw h];dsimp only;have:0<(fz (f+1) (u / 10)).length:=ry.2 (MQ f _);rw[aI,iV];omega
theorem CW{u:Nat}(h:100<=u)(f:Nat):3<=(fz (f+3) u).length:=by
 rw[fz,dw (by omega)];dsimp only;have:=AX (u:=u / 10) (by omega) f;rw[aI,iV];omega
theorem nP:∀(f u:Nat),(fz f u).length<=f
 | 0,u=>by simp[fz]
 |f+1,u=>by
  unfold fz;split
  ·have:=nP f (u / 10);rw[aI,iV];omega
  ·simp
theorem xK(n:Nat):(cO n).length<=21:=by
 have:=nP 20 n;unfold cO;rw[bB];omega
theorem E3:cO 1=bp 1:=by decide
theorem xL{n:Nat}(h:cO n=bp 1):n=1:=by
 have a:fz 20 n=[49]:=by
  have:cO n=115::[49]:=by rw[h];decide
  exact(List.cons.inj this).2
 by_cases b:10<=n
 ·have:=AX b 18;rw[a]at this;simp at this
 ·have c:fz 20 n=[UInt8.ofNat (48+n)]:=by
   rw[fz];have:Nat.ble 10 n=false:=gE.2 λh=>b (cm h)
   rw[this]
  rw[c]at a;have d:=bw UInt8.toNat (List.cons.inj a).1;rw[UInt8.toNat_ofNat']at d;have:(49:UInt8).toNat=49:=rfl;omega
theorem sg(n:Nat):cO n≠fF:=λe=>by
 have:(cO n).head? = fF.head? := by rw[e]
 simp[cO,fF]at this
theorem Of:((List.range 35).all λk => !ko [Z (.str (cO (65+k)))])=true:=by kernel_rfl
theorem IC{n:Nat}(h:65<=n):ko [Z (.str (cO n))]=false:=by
 by_cases g:n<100
 ·have:=e6.1 Of (n-65) (jA.2 (by omega));rw[show 65+(n-65)=n by omega]at this
  simpa using this
 ·have d:=CW (u:=n) (by omega) 17;unfold cO
  match e:fz 20 n,d with
  |a::b::c::r,_=>rfl
theorem MI{n:Nat}(h:65<=n):ko [J n]=false:=aR (by omega)
theorem BW{f:Nat}{a:List T}{σ:St}(m:ko a=false)(h:(!Nat.beq f 7 && !Nat.beq f 29 && !Nat.beq f 136 && !Nat.beq f 135)=true):fq f a σ=xX f a σ:=by
 simp only[aM,ku]at h;obtain⟨⟨⟨i,j⟩,k⟩,l⟩:=h;have b:nF 7 true f a σ=none:=by simp[nF,i]
 have c:fT f a σ=none:=by simp only[fT,j]
 have d:HQ e4 (fU (gA Tryz.prog 64 od 16) e4) f a σ=none:=by
  unfold HQ;rw[m];cases e4.contains f<;>rfl
 have e:rM 136 5 [iz,iz,iz,iz,.int .u32 0] f a σ=none:=by simp only[rM,k]
 have g:o9 135 5 f a σ=none:=by simp only[o9,l]
 exact(bA b).trans ((bA c).trans (bA ((bA d).trans ((bA e).trans g))))
theorem BT{f:Nat}{a:List T}{σ:St}(h:(!KH.contains f && !Nat.beq f 246 && !Nat.beq f 181 && ![167].contains f && !Nat.beq f 111)=true):xX f a σ=none:=by
 simp only[aM,ku]at h;obtain⟨⟨⟨⟨c,d⟩,e⟩,g⟩,i⟩:=h;have b:oc f a σ=none:=by simp only[oc,xR,EZ,c,d,ph,e]
 exact(bA ((bA b).trans (by simp only[fU,g,gh]))).trans (by simp only[BV,vy,i])
theorem Lj{f:Nat}{a:List T}{σ:St}(h:(!KH.contains f && !Nat.beq f 246 && !Nat.beq f 181 && ![167].contains f)=true):Pc f a σ=none:=by
 simp only[aM,ku]at h;obtain⟨⟨⟨c,d⟩,e⟩,g⟩:=h;have b:oc f a σ=none:=by simp only[oc,xR,EZ,c,d,ph,e]
 exact(bA b).trans (by simp only[fU,g,gh])
abbrev jb(s:St):Prop:=s.get 0=some (.eb 2 (BR.map (S.int .u64)))
section
variable {s t:St}{x y:S}{l:Bs}{i n m:Nat}{w:Bool}{room:Int}{fs:List Fl}
theorem KA(d:Nat)(b:jb s)(c:n<=1073741824):R (d+1) 111 [J n] s=some (Z (.str (fz 20 n)),s):=by
 have a:BV 111 [J n] s=some (Z (.str (fz 20 n)),s):=Kz (aK (by omega)) b;refine ep ?_;rw[kV (by decide)];exact(bA (Lj (by decide))).trans a
theorem K0(d:Nat)(k:jb s)(h:65<=n)(i:n<=1073741824):R (d+2) 69 [J n] s=some (Z (.str (cO n)),s):=by
 have j:fq 69 [J n] s=none:=(BW (MI h) (by decide)).trans (BT (by decide));have g:=KA d k i;have f:¬(n:Int)<1:=by omega
 have b:=b7 [115] (fz 20 n) (by have:=nP 20 n;simp;omega);rw[show [115]++fz 20 n=cO n from rfl]at b;refine(ak j Tryz.func69 (by kernel_rfl)).trans ((PG ..).trans ?_);unfold f69;show _=_
 generalize cO n=l,fz 20 n=c,(n:Int)=e at*;have a:gA Tryz.prog 8192 fq (d+1) 111 [J e] s=some (Z (.str c),s):=g;generalize gA Tryz.prog 8192 fq (d+1)=m at*;simp[f,a,b]
def isLet(b:UInt8):Bool:=(Nat.ble 97 b.toNat&&Nat.ble b.toNat 122)||((Nat.ble 48 b.toNat&&Nat.ble b.toNat 57)||Nat.beq b.toNat 46)
def LS:List S:=(List.range 256).map λc=>S.bool ((Nat.ble 97 c&&Nat.ble c 122)||((Nat.ble 48 c&&Nat.ble c 57)||Nat.beq c 46))
def l9:Bs:=[97,98,99,100,101,102,103,104,105,106,107,108,109,110,111,112,113,114,115,116,117,118,119,120,121,122,48,49,50,51,52,53,54,55,56,57,46]
theorem Ie:LS.length=256:=by simp[LS]
theorem Pp(b:UInt8):LS[b.toNat]? = some (.bool (isLet b)):=by
 unfold LS isLet;rw[cL,zG b.toNat_lt];rfl
theorem zq(σ:St):fq 167 [Z (.str l9)] σ=some (.c6 [.agg LS,.s (.bool true)],σ):=by
 rw[kV (by decide)]
 have a:oc 167 [Z (.str l9)] σ=none:=by
  have b:KH.contains 167=false:=by decide
  have c:Nat.beq 167 246=false:=by decide
  have d:Nat.beq 167 181=false:=by decide
  simp only[oc,xR,EZ,b,c,ph,d]
 exact dG ((bA a).trans (jm (by decide) (by kernel_rfl) (by kernel_rfl)))
theorem pj(d:Nat)(h:s.get i=some (.K w LS))(b:UInt8):R (d+1) 212 [Z (.ptr i 0),J8 b.toNat] s=some (B (isLet b),s):=by
 rw[Bi];unfold f212;have a:=qc 256 b b.toNat_lt i 0;have c:aa (Z (.ptr i (0+b.toNat))) s.get=some (B (isLet b)):=ag h (by rw[a7];exact Pp b);simp only[Ay,dt,a,c]
theorem vA(d:Nat)(h:s.get i=some (.K w LS))(E:l.length<=8000):∃m:Bs,R (d+2) 169 [Z (.str l),Z (.ptr i 0)] s=some (Z (.str m),s)/\m.length<=l.length:=by
 obtain⟨j,F,D,m,rfl,rfl,g⟩:=aL (f:=kN (R (d+1)) 8192) (λq v u=>∃m:Bs,q=m.length/\v=[Z (.str m),Z (.ptr i 0)]/\u=s/\m.length<=l.length)
  (λj u=>∃m:Bs,j = .exit 0 [Z (.str m)]/\u=s/\m.length<=l.length) (by
  rintro q v u ⟨m,rfl,rfl,rfl,g⟩;rcases En m with rfl | ⟨r,c,e⟩
  ·right;refine⟨_,u,?_,(λv x=>by cases x),[],rfl,rfl,cc _⟩;unfold kN;simp
  ·rw[Ej]at e;have B:m.length=r.length+1:=by rw[e];simp
   have y:0<m.length:=by omega
   have w1:IntKind.i64.wrap ((m.length:Int)-1)=(r.length:Int):=by rw[aw _ (by omega) (by omega)];omega
   have k:bZ (Z (.str m)) (J (r.length:Int))=some (J8 c.toNat):=jU rfl (by rw[e];simp);have o:=pj d h c;have C:=ew (l:=m) (m:=r.length) (n:=(r.length:Int)) rfl (by omega);have t:m.take r.length=r:=by rw[e];simp
   rw[t]at C;cases z:isLet c with
   |true=>
    left;rw[z]at o;refine⟨[Z (.str r),Z (.ptr i 0)],u,r.length,?_,by omega,r,rfl,rfl,rfl,by omega⟩;unfold kN;simp[y,w1,k,o,C]
   |false=>
    right;rw[z]at o;refine⟨.exit 0 [Z (.str m)],u,?_,(λv x=>by cases x),m,rfl,rfl,g⟩;unfold kN;simp[y,w1,k,o]) 8192 l.length [Z (.str l),Z (.ptr i 0)] s ⟨l,rfl,rfl,rfl,au _⟩ (by omega)
 refine⟨m,?_,g⟩;rw[Bg];unfold f169;simp[D]
theorem wN(d:Nat)(h:s.get i=some (.K w LS))(z:l.length<=8000):∃m:Bs,R (d+2) 168 [Z (.str l),Z (.ptr i 0)] s=some (Z (.str m),s):=by
 obtain⟨j,B,x,m,rfl,rfl⟩:=aL (f:=kM (R (d+1)) 8192) (λq v u=>∃m:Bs,q=m.length/\v=[Z (.str m),Z (.ptr i 0)]/\u=s/\m.length<=l.length)
  (λj u=>∃m:Bs,j = .exit 0 [Z (.str m)]/\u=s) (by
  rintro q v u ⟨m,rfl,rfl,rfl,k⟩;cases m with
  |nil=>
   right;refine⟨_,u,?_,(λv o=>by cases o),[],rfl,rfl⟩;unfold kM;simp
  |cons c r=>
   have e:bZ (Z (.str (c::r))) (J 0)=some (J8 c.toNat):=jU (j:=0) rfl rfl;have g:=pj d h c;have y:=kH (l:=c::r) (m:=1) (n:=1) rfl (by simp);cases t:isLet c with
   |true=>
    left;rw[t]at g;refine⟨[Z (.str r),Z (.ptr i 0)],u,r.length,?_,by simp,r,rfl,rfl,rfl,by simp at k;omega⟩;unfold kM;simp[e,g,y]
   |false=>
    right;rw[t]at g;refine⟨.exit 0 [Z (.str (c::r))],u,?_,(λv o=>by cases o),c::r,rfl,rfl⟩;unfold kM;simp[e,g]) 8192 l.length [Z (.str l),Z (.ptr i 0)] s ⟨l,rfl,rfl,rfl,au _⟩ (by omega)
 refine⟨m,?_⟩;rw[Bf];unfold f168;simp[x]
set_option maxRecDepth 100000 in
theorem G0(d:Nat)(B:s.wf)(n:l≠[])(p:l.length<=8000):∃(m:Bs) (t:St),R (d+4) 129 [Z (.str l),Z (.str l9)] s=some (Z (.str m),t)/\Gr s t:=by
 rw[A9];unfold f129;generalize h:a6 _=q;obtain⟨z,rfl,w⟩:∃z:List S,q=a6 z/\z.length=256:=⟨_,h.symm,rfl⟩;clear h;have k:R (d+3) 167 [Z (.str l9)] s=some (.c6 [.agg LS,.s (.bool true)],s):=ep (zq s);have A:aE s (a6 z)=some (Z (.ptr s.size 0),s.push (.K true z)):=rfl;have f:(V.agg LS).cells.length=256/\0+256<=z.length:=⟨Ie,by omega⟩;obtain⟨t,c⟩:=aZ ((s.push (.K true z)).set s.size (.K true LS))
 have st:aj 256 (Z (.ptr s.size 0)) (.v (.agg LS)) (s.push (.K true z))=some (tt,t):=by
  simp only[aj,St.bf,af f];rw[show(V.agg LS).cells=LS from rfl,cK (by rw[w,Ie]),<-c]
 have g:Gr s t:=by
  rw[c];exact⟨St.wf_set (St.bo B _) (by simp) _,by simp,λb f=>by rw[St.bO (by omega),St.j5 (by omega)]⟩
 have e:t.get s.size=some (.K true LS):=by rw[c];exact St.dh
 obtain⟨x,i,u⟩:=vA (l:=l) (d+1) e p;obtain⟨y,j⟩:=wN (l:=x) (d+1) e (by omega);have o:¬l9=[]:=by decide
 have a:(l9.length:Int)=37:=rfl;refine⟨y,t,?_,g⟩;simp only[aH,Nat.reduceAdd]at i j;generalize R (d+3)=r at*;simp[n,o,a,k,ai,A,st,i,j]
theorem G6(d:Nat)(j:s.wf)(h:65<=n):∃b t,R (d+5) 90 [Z (.str (cO n))] s=some (B b,t)/\Gr s t:=by
 have o:fq 90 [Z (.str (cO n))] s=none:=(BW (IC h) (by decide)).trans (BT (by decide));have p:=xK n;have a:cO n≠[]:=by simp[cO]
 have i:0<(cO n).length:=ry.2 a;obtain⟨m,t,k,g⟩:=G0 (d:=d) j a (by omega);have ls:aV (Z (.str (cO n)))=some (J (cO n).length):=rfl;have f:(1:Int)<=((cO n).length:Int):=by omega
 have run:=(ak (d:=d+4) (N:=8192) o Tryz.func90 (by kernel_rfl)).trans (PI ..);by_cases l:(cO n).length<=20
 ·have c:((cO n).length:Int)<=20:=by omega
  refine⟨decide (m=[]),t,run.trans ?_,g⟩;unfold f90;show _=_
  have e:gA Tryz.prog 8192 fq (d+4) 129 [Z (.str (cO n)),Z (.str [97,98,99,100,101,102,103,104,105,106,107,108,109,110,111,112,113,114,115,116,117,118,119,120,121,122,48,49,50,51,52,53,54,55,56,57,46])] s=some (Z (.str m),t):=k;simp[ls,f,c,e]
 ·have c:¬((cO n).length:Int)<=20:=by omega
  refine⟨false,s,run.trans ?_,Gr.refl j⟩;unfold f90;show _=_
  simp[ls,f,c,bD]
theorem Lx(d:Nat)(u:Dk s i m room fs)(j:∀f∈fs,f.nm≠cO n)(h:65<=n):∃c t,R (d+7) 42 [Z (.ptr i 0),Z (.str (cO n))] s=some (.c6 [.s .av,.s (.int .i64 c)],t)/\c≠0/\Gr s t:=by
 obtain⟨b,t,o,g⟩:=G6 (s:=s) d u.wf h;have e:=u.gr g;have w:=e.PR;have x:=e.KQ j
 have k:∃c:Int,R (d+6) 36 [Z (.ptr i 0),Z (.str (cO n))] s=some (.c6 [.s .c9,.s (.int .i64 c)],t)/\c≠0:=by
  cases b with
  |true=>
   refine⟨9,?_,by decide⟩;rw[tZ];unfold f36;generalize R (d+5)=r at*;simp[o,w,x,aD,a8]
  |false=>
   refine⟨1,?_,by decide⟩;rw[tZ];unfold f36;generalize R (d+5)=r at*;simp[o,w,x,aD,a8]
 obtain⟨c,y,q⟩:=k;refine⟨c,t,?_,q,g⟩;rw[yT];unfold f42;generalize R (d+6)=r at*;simp[y,ai,q,aD,a8]
end
structure e8 where
 f:Int
 n:Int
 s:Int
 mn:Int
 mx:Int
 a:Int
 z:Int
 deriving DecidableEq
def cA(x:e8):List S:=[.int .i64 x.f,.int .i64 x.n,.int .i64 x.s,.int .i64 x.mn,.int .i64 x.mx,.int .i64 x.a,.int .i64 x.z]
abbrev AA(x:e8):T := .v (.agg (cA x))
theorem IJ(x:e8):(cA x).length=7:=rfl
structure IA(x:e8):Prop where
 f:I6 x.f
 n:I6 x.n
 s:I6 x.s
 mn:I6 x.mn
 mx:I6 x.mx
 a:I6 x.a
 z:I6 x.z
def jl(x:e8):Bool:=decide (1<=x.n/\x.n<=1099511627776/\0<=x.f/\x.f<=1099511627776) &&
 (if x.n=1 then decide (x.mn=x.s/\x.mx=x.s/\x.a=x.s/\x.z=x.s)else decide (x.mn<=x.a/\x.mn<=x.z/\x.mn<=x.mx/\x.a<=x.mx/\x.z<=x.mx))
def wK:Nat->Int
 | 1=>5
 | 2=>60
 | 3=>1440
 |_=>1
theorem kr(k:Nat):1<=wK k/\wK k<=1440:=by
 unfold wK;split<;>omega
def bW(w:Int):Int->List e8->Bool
 |_,[]=>true
 |last,x::r=>jl x&&decide (x.f%w=0)&&decide (last<x.f)&&bW w x.f r
theorem dF{x:e8}(h:jl x=true):(1<=x.n/\x.n<=1099511627776/\0<=x.f/\x.f<=1099511627776)/\(x.n=1->x.mn=x.s/\x.mx=x.s/\x.a=x.s/\x.z=x.s)/\(x.mn<=x.a/\x.mn<=x.z/\x.mn<=x.mx/\x.a<=x.mx/\x.z<=x.mx):=by
 unfold jl at h;rw[aM,bK]at h;refine⟨h.1,?_⟩;by_cases b:x.n=1
 ·rw[af b,bK]at h;exact⟨λ_=>h.2,by omega⟩
 ·rw[ae b,bK]at h;exact⟨λe=>absurd e b,h.2⟩
def da(x:e8)(b:Int):Bs:=aq b.toNat++(aq (x.n-1).toNat++(aq (cZ x.mn)++(if x.n=1 then []else aq (x.mx-x.mn).toNat++(aq (cZ x.s)++(aq (x.a-x.mn).toNat++aq (x.z-x.mn).toNat)))))
def eW(w:Int):Int->List e8->Bs
 |_,[]=>[]
 |last,x::r=>da x (x.f / w-last-1)++eW w (x.f / w) r
def dJ(w:Int)(l:List e8):Bs:=aq l.length++eW w (-1) l
theorem rK(x:e8)(b:Int):(da x b).length<=77:=by
 have c:=aX b.toNat;have d:=aX (x.n-1).toNat;have e:=aX (cZ x.mn);have f:=aX (x.mx-x.mn).toNat;have g:=aX (cZ x.s);have h:=aX (x.a-x.mn).toNat;have i:=aX (x.z-x.mn).toNat;unfold da;split
 ·simp only[aI,dO];omega
 ·simp only[aI];omega
theorem xf(w:Int):∀(last:Int) (l:List e8),(eW w last l).length<=77*l.length
 |_,[]=>by simp[eW]
 |last,x::r=>by
  have c:=xf w (x.f / w) r;have d:=rK x (x.f / w-last-1);simp only[eW,aI,bB];omega
def Hm(bs:Bs)(w at_:Int)(r:Rr):e8×Int×Rr:=
 let at':=W6 (W6 (at_+1)+W6 ((nx bs r).1:Nat))
 let c:=(nx bs r).2
 let n:=W6 (W6 ((nx bs c).1:Nat)+1)
 let d:=(nx bs c).2
 let a:=fc (nx bs d).1
 let b:=(nx bs d).2
 if n=1 then(⟨W6 (at'*w),n,a,a,a,a,a⟩,at',b)
 else
  let e:=(nx bs b).2
  let f:=(nx bs e).2
  let g:=(nx bs f).2
  (⟨W6 (at'*w),n,fc (nx bs e).1,a,W6 (a+(nx bs b).1),W6 (a+(nx bs f).1),W6 (a+(nx bs g).1)⟩,at',(nx bs g).2)
def lR(bs:Bs)(w:Int):Nat->List e8->Int->Rr->List e8×Rr
 | 0,acc,_,r=>(acc,r)
 |m+1,acc,at_,r=>if r.bad=true then(acc,r)else lR bs w m (acc++[(Hm bs w at_ r).1]) (Hm bs w at_ r).2.1 (Hm bs w at_ r).2.2
theorem OL{bs pre post:Bs}{w last:Int}{x:e8}(hw:1<=w/\w<=1440)(Q:jl x=true)(hi:IA x)(P:x.f%w=0)(hl : -1<=last)(t:last<x.f / w)(h:bs=pre++(da x (x.f / w-last-1)++post)) :
 Hm bs w last ⟨pre.length,false⟩=(x,x.f / w,⟨(pre++da x (x.f / w-last-1)).length,false⟩):=by
 obtain⟨⟨n1,n2,B,f1⟩,l,m1,m2,m3,m4,m5⟩:=dF Q;have u:0<=x.f / w:=gG B (by omega);have v:x.f / w<=x.f:=oA _ B;obtain⟨q,D⟩:=aZ (x.f / w);rw[<-D]at t h u v ⊢
 have y:q*w=x.f:=by
  have:=sF x.f w;rw[P,<-D,Int.mul_comm]at this;omega
 obtain⟨g,e⟩:=aZ ((q-last-1).toNat:Nat);obtain⟨c,i⟩:=aZ ((x.n-1).toNat:Nat);have m:=hi.mn;have A:=hi.mx;have is:=hi.s;have S:=hi.a;have iz:=hi.z;have I:nx bs ⟨pre.length,false⟩=(g,⟨(pre++aq g).length,false⟩):=eR (post:=_) (by rw[h,e];unfold da;rw[bg]) (by omega);have J:nx bs ⟨(pre++aq g).length,false⟩=(c,⟨(pre++aq g++aq c).length,false⟩):=eR (post:=_) (by rw[h,e,i];unfold da;simp only[bg];rfl) (by omega);have K:nx bs ⟨(pre++aq g++aq c).length,false⟩=(cZ x.mn,⟨(pre++aq g++aq c++aq (cZ x.mn)).length,false⟩):=eR (post:=_) (by rw[h,e,i];unfold da;simp only[bg];rfl) (fE m);have w1:W6 (last+1)=last+1:=jf ⟨by omega,by omega⟩;have V:W6 (g:Nat)=(g:Int):=jf ⟨by omega,by omega⟩;have W:W6 (last+1+(g:Int))=q:=by rw[show last+1+(g:Int)=q by omega];exact jf ⟨by omega,by omega⟩
 have X:W6 (q*w)=x.f:=by rw[y];exact jf hi.f
 have Y:W6 (c:Nat)=(c:Int):=jf ⟨by omega,by omega⟩;have Z:W6 ((c:Int)+1)=x.n:=by rw[show(c:Int)+1=x.n by omega];exact jf hi.n
 unfold Hm;simp only[I,J,K,mV,w1,V,W,X,Y,Z];by_cases d:x.n=1
 ·rw[af d];obtain⟨E,F,G,H⟩:=l d
  have R:(⟨x.f,x.n,x.mn,x.mn,x.mn,x.mn,x.mn⟩:e8)=x:=by
   cases x;simp only at E F G H ⊢;rw[E,F,G,H]
  rw[R];unfold da;rw[af d,<-e,<-i];simp[bg]
 ·rw[ae d];obtain⟨b,k⟩:∃p:Nat,p=(x.mx-x.mn).toNat:=⟨_,rfl⟩;obtain⟨j,r⟩:∃p:Nat,p=(x.a-x.mn).toNat:=⟨_,rfl⟩;obtain⟨o,C⟩:∃p:Nat,p=(x.z-x.mn).toNat:=⟨_,rfl⟩;unfold I6 at m A is S iz;have L:nx bs ⟨(pre++aq g++aq c++aq (cZ x.mn)).length,false⟩=(b,⟨(pre++aq g++aq c++aq (cZ x.mn)++aq b).length,false⟩):=eR (post:=_) (by rw[h,e,i,k];unfold da;rw[ae d];simp only[bg];rfl) (by omega);have M:nx bs ⟨(pre++aq g++aq c++aq (cZ x.mn)++aq b).length,false⟩=(cZ x.s,⟨(pre++aq g++aq c++aq (cZ x.mn)++aq b++aq (cZ x.s)).length,false⟩):=eR (post:=_) (by rw[h,e,i,k];unfold da;rw[ae d];simp only[bg];rfl) (fE is);have N:nx bs ⟨(pre++aq g++aq c++aq (cZ x.mn)++aq b++aq (cZ x.s)).length,false⟩=(j,⟨(pre++aq g++aq c++aq (cZ x.mn)++aq b++aq (cZ x.s)++aq j).length,false⟩):=eR (post:=_) (by rw[h,e,i,k,r];unfold da;rw[ae d];simp only[bg];rfl) (by omega);have O:nx bs ⟨(pre++aq g++aq c++aq (cZ x.mn)++aq b++aq (cZ x.s)++aq j).length,false⟩=(o,⟨(pre++aq g++aq c++aq (cZ x.mn)++aq b++aq (cZ x.s)++aq j++aq o).length,false⟩):=eR (post:=post) (by rw[h,e,i,k,r,C];unfold da;rw[ae d];simp only[bg]) (by omega);have v4:W6 (x.mn+(b:Nat))=x.mx:=by rw[show x.mn+(b:Int)=x.mx by omega];exact jf hi.mx
  have T:W6 (x.mn+(j:Nat))=x.a:=by rw[show x.mn+(j:Int)=x.a by omega];exact jf hi.a
  have U:W6 (x.mn+(o:Nat))=x.z:=by rw[show x.mn+(o:Int)=x.z by omega];exact jf hi.z
  simp only[L,M,N,O,mV,v4,T,U];unfold da;rw[ae d,<-e,<-i,<-k,<-r,<-C];simp only[bg]
theorem AW{w:Int}(n:1<=w/\w<=1440):∀(l:List e8) {bs pre post:Bs} {acc:List e8} {lastF last:Int},bs=pre++(eW w last l++post)->bW w lastF l=true->(∀x∈l,IA x) → -1<=last->(∀x,l.head? = some x->last<x.f / w) →
 lR bs w l.length acc last ⟨pre.length,false⟩=(acc++l,⟨(pre++eW w last l).length,false⟩)
 | [],bs,pre,post,acc,lastF,last,h,_,_,_,_=>by simp[lR,eW]
 |x::r,bs,pre,post,acc,lastF,last,h,g,hi,C,B=>by
  unfold bW at g;rw[aM,aM,aM,bK,bK]at g;obtain⟨⟨⟨k,j⟩,D⟩,c⟩:=g;have d:=(dF k).1;have o:=OL n k (hi x eF) j C (B x rfl) (bs:=bs) (pre:=pre) (post:=eW w (x.f / w) r++post) (by rw[h];simp[eW,bg]);have E:0<=x.f / w:=gG d.2.2.1 (by omega)
  have F:=AW n r (bs:=bs) (pre:=pre++da x (x.f / w-last-1)) (post:=post) (acc:=acc++[x]) (lastF:=x.f) (last:=x.f / w) (by rw[h];simp[eW,bg]) c (λy e=>hi y (dC _ e)) (by omega) λy e=>by
   cases r with
   |nil=>cases e
   |cons I H=>
    cases e;unfold bW at c;rw[aM,aM,aM,bK,bK]at c;have G:=c.1.2;have q:=c.1.1.2;have t:=sF x.f w;have u:=sF y.f w;rw[j]at t;rw[q]at u;apply Int.not_le.1;intro z;have:=Mp z (show 0<=w by omega);omega
  rw[bB,lR,ae (by simp),o];dsimp only;rw[F];simp[eW,bg]
def vG(w:Int)(l:List e8):Bool:=bW w (-1) l&&Nat.ble l.length 64
def qE(bs:Bs)(w:Int):Option (List e8):=
 if((lR bs w (eM bs 64 ⟨0,false⟩).1 [] (-1) (eM bs 64 ⟨0,false⟩).2).2.bad || !vG w (lR bs w (eM bs 64 ⟨0,false⟩).1 [] (-1) (eM bs 64 ⟨0,false⟩).2).1)=true then none
 else if dJ w (lR bs w (eM bs 64 ⟨0,false⟩).1 [] (-1) (eM bs 64 ⟨0,false⟩).2).1=bs then some (lR bs w (eM bs 64 ⟨0,false⟩).1 [] (-1) (eM bs 64 ⟨0,false⟩).2).1 else none
theorem C7{w:Int}(t:1<=w/\w<=1440){l:List e8}(h:vG w l=true)(hi:∀x∈l,IA x):qE (dJ w l) w=some l:=by
 have c:=h;unfold vG at c;rw[aM]at c;have j:=cm c.2;have n:nx (dJ w l) ⟨([]:Bs).length,false⟩=(l.length,⟨([]++aq l.length).length,false⟩):=eR (post:=eW w (-1) l) (by simp[dJ]) (by omega);have d:nx (dJ w l) ⟨0,false⟩=(l.length,⟨([]++aq l.length).length,false⟩):=n
 have g:eM (dJ w l) 64 ⟨0,false⟩=(l.length,⟨([]++aq l.length).length,false⟩):=by
  unfold eM;rw[d,ae (by simp;omega)]
 have e:=AW t l (bs:=dJ w l) (pre:=[]++aq l.length) (post:=[]) (acc:=[]) (last := -1) (by simp[dJ]) c.1 hi (by omega) λx k=>by
  cases l with
  |nil=>cases k
  |cons y r=>
   cases k;have:=c.1;unfold bW at this;rw[aM,aM,aM]at this;have o:=(dF this.1.1.1).1.2.2.1;have:=gG o (show 0<=w by omega);omega
 obtain⟨A,q⟩:=aZ (([]++aq l.length).length);rw[<-q]at g e;rw[dD]at e;unfold qE;rw[g];simp only[e,h];simp
structure Sq where
 i:Int
 t:Int
 f:Int
 o:Int
 l:List gq
 a:List e8
def xw(g:Sq):Bool:=decide (1<=g.i/\g.i<=1073741824/\0<=g.t/\g.t<4/\0<=g.f/\g.f<g.o/\g.o<=1099511627776)
def qo(g:Sq):Bool:=match g.l.head?,g.l.getLast? with
 |some x,some z=>decide (g.f<=x.t)&&decide (z.t<g.o)
 |_,_=>false
def qn(g:Sq):Bool:=match g.a.head?,g.a.getLast? with
 |some x,some z=>decide (g.f-g.f%wK g.t.toNat<=x.f)&&decide (z.f<g.o)
 |_,_=>false
def gL(g:Sq):Bool:=xw g&&(if g.t=0 then decide (g.a=[])&&ug g.l&&qo g else decide (g.l=[])&&vG (wK g.t.toNat) g.a&&qn g)
structure IQ(g:Sq):Prop where
 l:∀x∈g.l,I6 x.v
 a:∀x∈g.a,IA x
def iv(g:Sq):List Nat:=[g.i.toNat,g.t.toNat,g.f.toNat,(g.o-g.f).toNat]
def mE(g:Sq):Bs:=[84,75]++ef (iv g)
def iE(g:Sq):Bs:=if g.t=0 then b5 g.l else dJ (wK g.t.toNat) g.a
def bP(g:Sq):Bs:=mE g++iE g
def dz(g:Sq):Bs:=bP g++four (cB 1 (bP g))
def fR(bs:Bs):Nat->Nat->Option (List Nat×Nat)
 | 0,at_=>some ([],at_)
 |m+1,at_=>match fY bs at_ with
  |none=>none
  |some (n,c)=>if 1099511627776<n then none else match fR bs m c with
   |none=>none
   |some (l,e)=>some (n::l,e)
def Mz(ns:List Nat)(body:Bs):Option Sq:=match ns with
 | [n0,n1,n2,n3]=>if n1=0 then(qF body).map λl=>⟨n0,0,n2,n2+n3,l,[]⟩else if n1<=3 then(qE body (wK n1)).map λa=>⟨n0,n1,n2,n2+n3,[],a⟩else none
 |_=>none
def dS(bs:Bs):Option Sq:=
 if bs.length<6\/bs.take 2≠[84,75]then none else
 match fR (bs.take (bs.length-4)) 4 2 with
 |none=>none
 |some (ns,at_)=>match Mz ns ((bs.take (bs.length-4)).drop at_)with
  |none=>none
  |some g=>if gL g=true/\dz g=bs/\bs.length<=4000 then some g else none
theorem xv:∀(ns:List Nat) {bs pre post:Bs},bs=pre++(ef ns++post)->(∀n∈ns,n<=1099511627776)->fR bs ns.length pre.length=some (ns,(pre++ef ns).length)
 | [],bs,pre,post,c,_=>by simp[fR,ef]
 |n::r,bs,pre,post,c,e=>by
  have j:=e n eF;have g:=me (bs:=bs) (pre:=pre) (n:=n) (post:=ef r++post) (at_:=pre.length) (by rw[c];simp[ef,bg]) rfl (by omega);have d:=xv r (bs:=bs) (pre:=pre++aq n) (post:=post) (by rw[c];simp[ef,bg]) λm h=>e m (dC _ h)
  rw[aI]at d;rw[bB,fR,g];dsimp only;rw[ae (by omega),d];simp[ef,bg,aH]
theorem iu{g:Sq}(h:gL g=true):1<=g.i/\g.i<=1073741824/\0<=g.t/\g.t<4/\0<=g.f/\g.f<g.o/\g.o<=1099511627776:=by
 unfold gL at h;rw[aM]at h;exact fL h.1
theorem vE{g:Sq}(h:gL g=true):∀n∈iv g,n<=1099511627776:=by
 obtain⟨d,e,j,k,o,q,r⟩:=iu h;intro n c;simp only[iv,cq,Fy,or_false]at c;rcases c with rfl | rfl | rfl | rfl<;>omega
theorem Og{g:Sq}(h:gL g=true)(hi:IQ g):Mz (iv g) (iE g)=some g:=by
 obtain⟨k,m,n,p,q,r,s⟩:=iu h;have b:=h;unfold gL at b;rw[aM]at b;unfold Mz iv iE;dsimp only;by_cases d:g.t=0
 ·rw[af d]at b;rw[aM,aM,bK]at b;obtain⟨_,⟨e,c⟩,_⟩:=b;rw[af d,af (by omega),C8 c hi.l];obtain⟨i,t,f,o,l,a⟩:=g;simp only at*;subst d;subst e;simp;omega
 ·rw[ae d]at b;rw[aM,aM,bK]at b;obtain⟨_,⟨j,c⟩,_⟩:=b;rw[ae d,ae (by omega),af (by omega),C7 (kr _) c hi.a];obtain⟨i,t,f,o,l,a⟩:=g;simp only at*;subst j;simp;omega
theorem Kl{g:Sq}(h:gL g=true)(hi:IQ g)(i:(dz g).length<=4000):dS (dz g)=some g:=by
 have a:(dz g).length=(bP g).length+4:=by simp[dz,four]
 have d:(dz g).take ((dz g).length-4)=bP g:=by rw[a,jC];unfold dz;rw[rB]
 have j:2<=(bP g).length:=by unfold bP mE;simp
 have c:(dz g).take 2=[84,75]:=rfl;have e:=xv (iv g) (bs:=bP g) (pre:=[84,75]) (post:=iE g) (by unfold bP mE;rw[bg]) (vE h);have f:(bP g).drop ([84,75]++ef (iv g)).length=iE g:=by unfold bP mE;rw[List.drop_left]
 unfold dS;rw[ae (by rw[a,c];simp;omega),d];have b:fR (bP g) 4 2=some (iv g,([84,75]++ef (iv g)).length):=e;rw[b];dsimp only;rw[f,Og h hi];dsimp only;rw[af ⟨h,rfl,i⟩]
theorem EU{bs:Bs}{l:List gq}(h:qF bs=some l):ug l=true/\∀x∈l,I6 x.v:=by
 unfold qF at h;split at h
 ·cases h
 ·rename_i b;split at h
  ·have c:=dQ h;rw[<-c];rw[kv,not_or]at b;exact⟨by simpa using b.2,λx e=>tT bs (pn bs) _ _ _ _ (λa d=>by cases d) x e⟩
  ·cases h
structure pd where
 out:List bM
 there:List Nat
 view:Nat
 id:Nat
 at_:Nat
def nD(n:Nat):Bs:=[115,101,97,108,32]++(if n=0 then [49]else if n=1 then [57]else [51,51])
def de(σ:pd)(k:Nat):pd:=
 if k%8=7 then { σ with out:=σ.out++[{ bN with k:=3,v:=(σ.view+1:Nat) }],view:=σ.view+1 }
 else if k%8=6 then { σ with out:=σ.out++[{ bN with k:=4,v:=(σ.view:Nat),x:=nD (k / 8%3) }] }
 else if 3<k%8/\0<σ.there.length then
  { σ with out:=σ.out++[{ bN with k:=2,v:=(σ.view:Nat),i:=(σ.there.getD (k / 8%σ.there.length) 0:Nat) }],
           there:=σ.there.take (k / 8%σ.there.length)++σ.there.drop (k / 8%σ.there.length+1) }
 else { out:=σ.out++[{ k:=1,v:=(σ.view:Nat),i:=(σ.id+1:Nat),t:=(k / 8%4:Nat),f:=(σ.at_:Nat),o:=(σ.at_+1+k / 8%30:Nat),u:=(k%4294967296:Nat),x:=[] }],
        there:=σ.there++[σ.id+1],view:=σ.view,id:=σ.id+1,at_:=σ.at_+1+k / 8%30 }
def nB(ks:List Nat):pd:=ks.foldl de ⟨[],[],0,0,0⟩
def lV(v:Int):Nat:=(IntKind.u64.wrap v).toNat
def nA(vs:List Int):List bM:=(nB ((vs.take 40).map lV)).out
abbrev Qw(vs:List Int):List S:=vs.map (S.int .i64)
abbrev Ap(vs:List Nat):List S:=vs.map λn:Nat=>S.int .i64 (n:Int)
section
variable {s t:St}{x y:S}{bs cs:Bs}{i:Nat}{l m:List bM}{e n:Nat}{vs:List S}
theorem sJ{len cap k:Nat}(h:k<=cap):dr len cap none (some (J k)) (some (J k))=some (0,k,k):=by
 have a:∀c,k<=c->mi (J k) c=some k:=λc h=>by
  have b:(0:Int)<=(k:Int):=by omega
  have d:(k:Int)<=(c:Int):=by omega
  simp[mi,h]
 delta dr
 dsimp only;rw[a _ h];dsimp only;rw[a _ (au _)]
theorem Pr(h:Ow e s x n vs)(t:0<n){j:Nat}(g:j<=n):∃y,aB e (Z x) none (some (J j)) (some (J j))=some (Z y)/\Ow e s y j (vs.take (j*e))/\own y=own x:=by
 have w:=h.len;have q:j*e<=n*e:=dx _ g;rcases h.ow with ⟨rfl,d⟩ | ⟨c,rows,rfl,d,_⟩ | ⟨c,rows,cap,rfl,o,d,u,k⟩
 ·omega
 ·omega
 ·have r:Ow e s (.sl c 0 j (.known j)) j (vs.take (j*e)):=by
   refine⟨by rw[bb];omega,.inr (.inr ⟨c,rows,_,rfl,.inr rfl,d,by omega,?_⟩)⟩;rw[<-k,gm,gp q]
  refine⟨.sl c 0 j (.known j),?_,r,rfl⟩;rcases o with rfl | rfl
  ·simp only[aB,bY,sJ g];simp
  ·simp only[aB,sJ g];simp
theorem Am{s0:St}(h:Fr e s0 s x n vs)(g:Gr s0 t)(d:s.size<=t.size)(b:∀c,own x=some c->t.get c=s.get c):Fr e s0 t x n vs:=
 ⟨g,h.ow.keep b,λc a=>⟨(h.new c a).1,bh (h.new c a).2 d⟩⟩
theorem FE.lit'{s0:St}{e:bM}(h:FE s0 s x l)(w:l.length<=1000000) :
 ∃x' t g,aE s (aN 1 (aA [iz,iz,iz,iz,iz,iz,.int .u32 0,.str []] [(0,8,AE e)]))=some (Z (.sl s.size 0 1 (.known 1)),g)/\aF 8 72 (Z x) (Z (.sl s.size 0 1 (.known 1))) g=some (Z x',t)/\FE s0 t x' (l++[e])/\s.size<=t.size ∧
  (∀b,b<s.size->own x≠some b->t.get b=s.get b)/\(own x'=none\/own x'=own x\/∃c,own x'=some c/\s.size<=c):=by
 have L:=Fr.lit 8 h.gr.1 (n:=1) (vs:=cells cE [e]) (by simp[cE]);obtain⟨x',t,j,f,u,k,o⟩:=(h.j6 L.gr).mo (by_:=72) (by omega) L.rd.src (by simp[cE]) (by omega);refine⟨x',t,_,rfl,j,?_,bl L.gr.2.1 u,λb d r => ?_,?_⟩
 ·unfold FE;rw[dK,aI];exact f
 ·rw[k b (bh d L.gr.2.1) r,L.gr.2.2 b d]
 ·rcases o with h | h | ⟨c,h,q⟩
  ·exact .inl h
  ·exact .inr (.inl h)
  ·exact .inr (.inr ⟨c,h,bl L.gr.2.1 q⟩)
structure py(s0 s:St)(o y:S)(l:List bM)(ns:List Nat):Prop where
 out:FE s0 s o l
 there:Fr 1 s0 s y ns.length (Ap ns)
 ne:∀c,own o=some c->own y≠some c
theorem py.lit{s0:St}{o:S}{ns:List Nat}{e:bM}(h:py s0 s o y l ns)(u:l.length<=1000000) :
 ∃x' t g,aE s (aN 1 (aA [iz,iz,iz,iz,iz,iz,.int .u32 0,.str []] [(0,8,AE e)]))=some (Z (.sl s.size 0 1 (.known 1)),g)/\aF 8 72 (Z o) (Z (.sl s.size 0 1 (.known 1))) g=some (Z x',t)/\py s0 t x' y (l++[e]) ns:=by
 obtain⟨x',t,g,k,n,f,x,r,w⟩:=FE.lit' (e:=e) h.out u;refine⟨x',t,g,k,n,f,Am h.there f.gr x λc d=>r c (h.there.new c d).2 λq=>h.ne c q d,λc d j => ?_⟩;rcases w with h1 | h1 | ⟨z,h1,B⟩
 ·rw[h1]at d;cases d
 ·rw[h1]at d;exact h.ne c d j
 ·rw[h1]at d;cases d;have:=(h.there.new c j).2;omega
theorem py.app{s0:St}{o z:S}{ns ms ks:List Nat}(h:py s0 s o y l ns)(B:Fr 1 s0 s x ks.length (Ap ks))(g:own x=own y)(C:gZ 1 (Z z) s.get=some (ms.length,Ap ms))(u:(ks.length+ms.length)*8<=140737488355328) :
 ∃j t,aF 1 8 (Z x) (Z z) s=some (Z j,t)/\py s0 t o j l (ks++ms):=by
 obtain⟨j,t,n,f,k,r,w⟩:=B.mo (by_:=8) (by omega) C (by simp) u;refine⟨j,t,n,Am h.out f.gr k λc e=>r c (h.out.new c e).2 λq=>h.ne c e (by rw[<-g];exact q),?_,λc e d => ?_⟩
 ·rw[aI];have:Ap (ks++ms)=Ap ks++Ap ms:=by simp[Ap]
  rw[this];exact f
 ·rcases w with h1 | h1 | ⟨D,h1,E⟩
  ·rw[h1]at d;cases d
  ·rw[h1,g]at d;exact h.ne c e d
  ·rw[h1]at d;cases d;have:=(h.out.new c e).2;omega
theorem jx(k:IntKind)(a b:Nat)(h:0<b):ah .rem (I k a) (I k b)=some (I k ((a%b:Nat))):=by
 rw[zu _ _ _ (by omega)];rfl
theorem qW(k:IntKind)(a b:Nat)(h:0<b)(c:k.wrap ((a / b:Nat):Int)=((a / b:Nat):Int)):ah .quo (I k a) (I k b)=some (I k ((a / b:Nat))):=by
 rw[OG _ _ _ (by omega)];have:Int.tdiv (a:Int) (b:Int)=((a / b:Nat):Int):=rfl;rw[this,c]
theorem zw(v:Int):IntKind.u64.wrap v=((lV v:Nat):Int):=(ic (wrap_u64 v)).symm
theorem OR(v:Int):lV v<2 ^ 64:=by
 have:IntKind.u64.wrap v<2 ^ 64:=by
  unfold IntKind.wrap;simp[IntKind.signed,IntKind.bits];omega
 rw[zw]at this;omega
structure w8(σ:pd)(n:Nat):Prop where
 out:σ.out.length=n
 there:σ.there.length<=n
 view:σ.view<=n
 id:σ.id<=n
 at_:σ.at_<=30*n
theorem w8.step{σ:pd}{n:Nat}(h:w8 σ n)(k:Nat):w8 (de σ k) (n+1):=by
 obtain⟨a,b,c,d,e⟩:=h;unfold de;split
 ·exact⟨by simp[a],by show σ.there.length<=_;omega,by show σ.view+1<=_;omega,by show σ.id<=_;omega,by show σ.at_<=_;omega⟩
 ·split
  ·exact⟨by simp[a],by show σ.there.length<=_;omega,by show σ.view<=_;omega,by show σ.id<=_;omega,by show σ.at_<=_;omega⟩
  ·split
   ·exact⟨by simp[a],by simp;omega,by show σ.view<=_;omega,by show σ.id<=_;omega,by show σ.at_<=_;omega⟩
   ·exact⟨by simp[a],by simp;omega,by show σ.view<=_;omega,by show σ.id+1<=_;omega,by show σ.at_+1+k / 8%30<=_;have:=di (k / 8) (show 0<30 by decide);omega⟩
abbrev Cg(x o y:S)(σ:pd)(n:Nat):List T:=[Z x,Z o,Z y,J (σ.view:Nat),J (σ.id:Nat),J (σ.at_:Nat),J n]
theorem HE(d:Nat){s0:St}{o:S}{σ:pd}{n:Nat}{is:List Int}(hx:Rd 1 s x is.length (Qw is))(h:py s0 s o y σ.out σ.there)(ok:w8 σ n)(hn:n<is.length)(SC:n<40) :
 ∃B y' t,sR (R d) 8192 (Cg x o y σ n) s=some (.normal (Cg x B y' (de σ (lV is[n])) (n+1)),t)/\py s0 t B y' (de σ (lV is[n])).out (de σ (lV is[n])).there:=by
 have r:=hx.lens;obtain⟨p,ix,ld⟩:=hx.CJ (j:=n) (i:=(n:Int)) (v := .int .i64 is[n]) rfl (by simp[Qw,hn]);have hK:=zw is[n];have SJ:=OR is[n];generalize lV is[n]=K at*;generalize is[n]=v at*;obtain⟨Ss,Su,Sv,Sw,Sx⟩:=ok;obtain⟨q,there,g,id,at_⟩:=σ;simp only at Ss Su Sv Sw Sx h;have Sj:(n:Int)<(is.length:Int):=by omega
 have Sk:(n:Int)<40:=by omega
 have w1:IntKind.i64.wrap ((n:Int)+1)=((n+1:Nat):Int):=by rw[aw _ (by omega) (by omega)];omega
 have r8:ah .rem (J6 (K:Nat)) (J6 8)=some (J6 ((K%8:Nat))):=jx .u64 K 8 (by decide);have q8:ah .quo (J6 (K:Nat)) (J6 8)=some (J6 ((K / 8:Nat))):=qW .u64 K 8 (by decide) (wrap64 _ (by omega));have H:decide (((K%8:Nat):Int)=7)=decide (K%8=7):=decide_eq_decide.2 (by omega);have V:decide (((K%8:Nat):Int)=6)=decide (K%8=6):=decide_eq_decide.2 (by omega);have e3:decide (3<((K%8:Nat):Int))=decide (3<K%8):=decide_eq_decide.2 (by omega);generalize((K%8:Nat):Int)=C8 at*;by_cases X:K%8=7
 ·have N:de ⟨q,there,g,id,at_⟩ K=⟨q++[{ bN with k:=3,v:=(g+1:Nat) }],there,g+1,id,at_⟩:=by unfold de;rw[af X]
  rw[N];have w2:IntKind.i64.wrap ((g:Int)+1)=((g+1:Nat):Int):=by rw[aw _ (by omega) (by omega)];omega
  have D:aO (aA [iz,iz,iz,iz,iz,iz,.int .u32 0,.str []] [(0,1,(J 3)),(1,1,J ((g+1:Nat):Int))])=some (AE { bN with k:=3,v:=(g+1:Nat) }):=rfl;obtain⟨B,t,s',G,E,b⟩:=py.lit (e:={ bN with k:=3,v:=(g+1:Nat) }) h (by omega);refine⟨B,y,t,?_,b⟩;rw[aK X]at H;unfold sR Cg;generalize((g+1:Nat):Int)=V1 at*;generalize((n+1:Nat):Int)=N1 at*;generalize(is.length:Int)=L at*;generalize(K:Int)=KK at*;simp[r,Sj,Sk,ix,ld,hK,r8,H,w2,D,G,E,w1]
 ·rw[aR X]at H;by_cases k6:K%8=6
  ·have N:de ⟨q,there,g,id,at_⟩ K=⟨q++[{ bN with k:=4,v:=(g:Nat),x:=nD (K / 8%3) }],there,g,id,at_⟩:=by unfold de;rw[ae X,af k6]
   rw[N];rw[aK k6]at V;obtain⟨s3,O⟩:=aZ (s.push (.K true [.str [49],.str [57],.str [51,51]]));have Sr:aE s (aN 3 (aA [.str [],.str [],.str []] [(0,1,(Z (.str [49]))),(1,1,(Z (.str [57]))),(2,1,(Z (.str [51,51])))]))=some (Z (.sl s.size 0 3 (.known 3)),s3):=by rw[O];rfl
   have F:Gr s s3:=by rw[O];exact Gr.push h.out.gr.1 _
   have b3:s3.get s.size=some (.K true [.str [49],.str [57],.str [51,51]]):=by rw[O];exact St.ec
   have Sn:py s0 s3 o y q there:=⟨h.out.j6 F,h.there.j6 F,h.ne⟩;have Y:ah .rem (J6 ((K / 8:Nat))) (J6 3)=some (J6 ((K / 8%3:Nat))):=jx .u64 (K / 8) 3 (by decide);have hj:K / 8%3<3:=di _ (by decide)
   obtain⟨w,z,Q,T,ad⟩:∃w z,ar 1 (Z (.sl s.size 0 3 (.known 3))) (J6 ((K / 8%3:Nat)))=some w/\aa w s3.get=some (Z (.str z))/\ah .add (Z (.str [115,101,97,108,32])) (Z (.str z))=some (Z (.str (nD (K / 8%3)))):=by
    generalize K / 8%3=qK at hj;rcases (by omega:qK=0\/qK=1\/qK=2)with rfl | rfl | rfl
    ·exact⟨_,_,rfl,ag b3 rfl,b7 _ _ (by decide)⟩
    ·exact⟨_,_,rfl,ag b3 rfl,b7 _ _ (by decide)⟩
    ·exact⟨_,_,rfl,ag b3 rfl,b7 _ _ (by decide)⟩
   have D:aO (aA [iz,iz,iz,iz,iz,iz,.int .u32 0,.str []] [(0,1,(J 4)),(1,1,J (g:Int)),(7,1,Z (.str (nD (K / 8%3))))])=some (AE { bN with k:=4,v:=(g:Nat),x:=nD (K / 8%3) }):=rfl;obtain⟨B,t,s',G,E,b⟩:=py.lit (e:={ bN with k:=4,v:=(g:Nat),x:=nD (K / 8%3) }) Sn (by omega);refine⟨B,y,t,?_,b⟩;unfold sR Cg;generalize nD (K / 8%3)=SB at*;generalize((K / 8%3:Nat):Int)=SI at*;generalize((K / 8:Nat):Int)=K8 at*;generalize(K:Int)=KK at*;generalize((n+1:Nat):Int)=N1 at*;generalize(is.length:Int)=L at*;simp[r,Sj,Sk,ix,ld,hK,r8,H,V,Sr,q8,Y,Q,T,ad,D,G,E,w1]
  ·rw[aR k6]at V;have tl:=h.there.rd.lens;by_cases k3:3<K%8/\0<there.length
   ·obtain⟨k3,kt⟩:=k3;rw[aK k3]at e3
    have N:de ⟨q,there,g,id,at_⟩ K=⟨q++[{ bN with k:=2,v:=(g:Nat),i:=(there.getD (K / 8%there.length) 0:Nat) }],there.take (K / 8%there.length)++there.drop (K / 8%there.length+1),g,id,at_⟩:=by
     unfold de;rw[ae X,ae k6,af ⟨k3,kt⟩]
    rw[N];have hj:K / 8%there.length<there.length:=di _ kt;have w2:IntKind.u64.wrap (there.length:Int)=(there.length:Int):=wrap64 _ (by omega);have Y:ah .rem (J6 ((K / 8:Nat))) (J6 (there.length:Nat))=some (J6 ((K / 8%there.length:Nat))):=jx .u64 (K / 8) there.length kt;generalize K / 8%there.length=qK at*;have w3:IntKind.i64.wrap (qK:Int)=(qK:Int):=fJ _ (by omega);have w4:IntKind.i64.wrap ((qK:Int)+1)=((qK+1:Nat):Int):=(by rw[aw _ (by omega) (by omega)];omega);have g0:decide (0<(there.length:Int))=true:=aK (by omega);obtain⟨p2,Q,T⟩:=h.there.rd.CJ (j:=qK) (i:=(qK:Int)) (v := .int .i64 ((there.getD qK 0:Nat):Int)) rfl (by simp[Ap,hj]);have D:aO (aA [iz,iz,iz,iz,iz,iz,.int .u32 0,.str []] [(0,1,(J 2)),(1,1,J (g:Int)),(2,1,J ((there.getD qK 0:Nat):Int))])=some (AE { bN with k:=2,v:=(g:Nat),i:=(there.getD qK 0:Nat) }):=rfl;obtain⟨B,t,s',G,E,b⟩:=py.lit (e:={ bN with k:=2,v:=(g:Nat),i:=(there.getD qK 0:Nat) }) h (by omega);obtain⟨y1,p1,Sy,Sm⟩:=Pr b.there.ow kt (j:=qK) (by omega);obtain⟨y2,Sz,SA,_⟩:=b.there.rd.pS (lo:=qK+1) (by omega);have ht:Ap (there.take qK)=(Ap there).take (qK*1):=(by simp[Ap,rz]);have hd:Ap (there.drop (qK+1))=(Ap there).drop ((qK+1)*1):=(by simp[Ap,List.map_drop]);have lt:(there.take qK).length=qK:=(by rw[bb];omega);have Sl:(there.drop (qK+1)).length=there.length-(qK+1):=(by rw[fK]);obtain⟨y',t2,C,b2⟩:=b.app (x:=y1) (z:=y2) (ks:=there.take qK) (ms:=there.drop (qK+1)) ⟨b.there.gr,by rw[lt,ht];exact Sy,λc hc=>b.there.new c (by rw[<-Sm];exact hc)⟩ Sm (by rw[Sl,hd];exact SA.src) (by rw[lt,Sl];omega);refine⟨B,y',t2,?_,b2⟩;unfold sR Cg;generalize((there.getD qK 0:Nat):Int)=TJ at*;generalize((qK+1:Nat):Int)=J1 at*;generalize(qK:Int)=JJ at*;generalize(there.length:Int)=TL at*;generalize((K / 8:Nat):Int)=K8 at*;generalize(K:Int)=KK at*;generalize((n+1:Nat):Int)=N1 at*;generalize(is.length:Int)=L at*;simp[r,Sj,Sk,ix,ld,hK,r8,H,V,e3,tl,g0,q8,w2,Y,w3,Q,T,D,G,E,p1,w4,Sz,C,w1]
   ·have N:de ⟨q,there,g,id,at_⟩ K=⟨q++[{ k:=1,v:=(g:Nat),i:=(id+1:Nat),t:=(K / 8%4:Nat),f:=(at_:Nat),o:=(at_+1+K / 8%30:Nat),u:=(K%4294967296:Nat),x:=[] }],there++[id+1],g,id+1,at_+1+K / 8%30⟩:=by
     unfold de;rw[ae X,ae k6,ae k3]
    rw[N];have w2:IntKind.i64.wrap ((id:Int)+1)=((id+1:Nat):Int):=(by rw[aw _ (by omega) (by omega)];omega);have w3:IntKind.i64.wrap ((at_:Int)+1)=((at_+1:Nat):Int):=(by rw[aw _ (by omega) (by omega)];omega);have Y:ah .rem (J6 ((K / 8:Nat))) (J6 30)=some (J6 ((K / 8%30:Nat))):=jx .u64 (K / 8) 30 (by decide);have r4:ah .rem (J6 ((K / 8:Nat))) (J6 4)=some (J6 ((K / 8%4:Nat))):=jx .u64 (K / 8) 4 (by decide);have l3:K / 8%30<30:=di _ (by decide);have l4:K / 8%4<4:=di _ (by decide);have w4:IntKind.i64.wrap ((K / 8%30:Nat):Int)=((K / 8%30:Nat):Int):=fJ _ (by omega);have w5:IntKind.i64.wrap ((K / 8%4:Nat):Int)=((K / 8%4:Nat):Int):=fJ _ (by omega);have w6:IntKind.i64.wrap (((at_+1:Nat):Int)+((K / 8%30:Nat):Int))=((at_+1+K / 8%30:Nat):Int):=(by rw[aw _ (by omega) (by omega)];omega);have w7:IntKind.u32.wrap (K:Int)=((K%4294967296:Nat):Int):=wrap32 K
    have D:aO (aA [iz,iz,iz,iz,iz,iz,.int .u32 0,.str []] [(0,1,(J 1)),(1,1,J (g:Int)),(2,1,J ((id+1:Nat):Int)),(3,1,J ((K / 8%4:Nat):Int)),(4,1,J (at_:Int)),(5,1,J ((at_+1+K / 8%30:Nat):Int)),(6,1,I .u32 ((K%4294967296:Nat):Int))]) =
     some (AE { k:=1,v:=(g:Nat),i:=(id+1:Nat),t:=(K / 8%4:Nat),f:=(at_:Nat),o:=(at_+1+K / 8%30:Nat),u:=(K%4294967296:Nat),x:=[] }):=rfl
    obtain⟨B,t,s',G,E,b⟩:=py.lit (e:={ k:=1,v:=(g:Nat),i:=(id+1:Nat),t:=(K / 8%4:Nat),f:=(at_:Nat),o:=(at_+1+K / 8%30:Nat),u:=(K%4294967296:Nat),x:=[] }) h (by omega);have L:=Fr.lit 1 b.out.gr.1 (n:=1) (vs:=Ap [id+1]) rfl;have U:aE t (aN 1 (aA [iz] [(0,1,J ((id+1:Nat):Int))]))=some (Z (.sl t.size 0 1 (.known 1)),t.push (.K true (Ap [id+1]))):=rfl;obtain⟨t1,Sp⟩:=aZ (t.push (.K true (Ap [id+1])));rw[<-Sp]at L U;have b1:py s0 t1 B y (q++[{ k:=1,v:=(g:Nat),i:=(id+1:Nat),t:=(K / 8%4:Nat),f:=(at_:Nat),o:=(at_+1+K / 8%30:Nat),u:=(K%4294967296:Nat),x:=[] }]) there:=⟨b.out.j6 L.gr,b.there.j6 L.gr,b.ne⟩;obtain⟨y',t2,C,b2⟩:=b1.app (x:=y) (z := .sl t.size 0 1 (.known 1)) (ks:=there) (ms:=[id+1]) b1.there rfl L.rd.src (by simp;omega);refine⟨B,y',t2,?_,b2⟩
    have F:(decide (3<C8)=false)\/(decide (3<C8)=true/\decide (0<(there.length:Int))=false):=by
     by_cases hk:3<K%8
     ·exact .inr ⟨by rw[e3];exact aK hk,aR (by omega)⟩
     ·exact .inl (by rw[e3];exact aR hk)
    unfold sR Cg;generalize((id+1:Nat):Int)=SF at*;generalize((at_+1+K / 8%30:Nat):Int)=SE at*;generalize((at_+1:Nat):Int)=SD at*;generalize((K / 8%30:Nat):Int)=SG at*;generalize((K / 8%4:Nat):Int)=K4 at*;generalize((K%4294967296:Nat):Int)=SH at*;generalize(there.length:Int)=TL at*;generalize((K / 8:Nat):Int)=K8 at*;generalize(K:Int)=KK at*;generalize((n+1:Nat):Int)=N1 at*;generalize(is.length:Int)=L' at*;clear e3;rcases F with F | ⟨F,g4⟩
    ·simp[r,Sj,Sk,ix,ld,hK,r8,H,V,F,q8,Y,r4,w2,w3,w4,w5,w6,w7,D,G,E,U,C,w1]
    ·simp[r,Sj,Sk,ix,ld,hK,r8,H,V,F,tl,g4,q8,Y,r4,w2,w3,w4,w5,w6,w7,D,G,E,U,C,w1]
theorem vY(ks:List Nat)(k:Nat):nB (ks++[k])=de (nB ks) k:=by simp[nB]
theorem LQ(d:Nat)(D:s.wf){is:List Int}(C:Rd 1 s x is.length (Qw is))(z:∀c,own x=some c->c<s.size):∃o t,R (d+1) 9 [Z x] s=some (Z o,t)/\FE s t o (nA is):=by
 rw[PJ];unfold f9
 obtain⟨j,U,O,o,H,f⟩:=aL (f:=sR (R d) 8192) (λq v u=>∃(n:Nat) (o y:S),q+n=min is.length 40/\v=Cg x o y (nB ((is.take n).map lV)) n/\py s u o y (nB ((is.take n).map lV)).out (nB ((is.take n).map lV)).there/\w8 (nB ((is.take n).map lV)) n)
  (λj u=>∃o,j = .exit 0 [Z o]/\FE s u o (nA is)) (by
  rintro q v u ⟨n,o,y,V,rfl,b,ok⟩;by_cases k:n<is.length/\n<40
  ·left
   have g:(is.take (n+1)).map lV=(is.take n).map lV++[lV (is[n]'k.1)]:=by
    rw[cM,aU k.1,nj,lK];rfl
   have I:Rd 1 u x is.length (Qw is):=C.gr z b.out.gr;obtain⟨Q,T,t,e,B⟩:=HE d I b ok k.1 k.2;have r:=ok.step (lV (is[n]'k.1));rw[<-vY,<-g]at e B r;exact⟨_,t,q-1,e,by omega,n+1,Q,T,by omega,rfl,B,r⟩
  ·right;have h:=C.lens
   have g:is.take n=is.take 40:=by
    rcases b9 n is.length with h1 | h1
    ·obtain rfl:n=40:=(by omega);rfl
    ·rw[b8 h1,b8 (by omega)]
   refine⟨.exit 0 [Z o],u,?_,(λv N=>by cases N),o,rfl,by unfold nA;rw[<-g];exact b.out⟩;unfold sR Cg;by_cases h1:n<is.length
   ·have w:decide ((n:Int)<(is.length:Int))=true:=aK (by omega);have F:decide ((n:Int)<40)=false:=aR (by omega);generalize(is.length:Int)=L,(n:Int)=E at*;simp[h,w,F]
   ·have w:decide ((n:Int)<(is.length:Int))=false:=aR (by omega);generalize(is.length:Int)=L,(n:Int)=E at*;simp[h,w,bD]) 8192 (min is.length 40) [Z x,Z .av,Z .av,J 0,J 0,J 0,J 0] s
  ⟨0,.av,.av,by omega,rfl,⟨Fr.nil 8 D,Fr.nil 1 D,λc G=>by cases G⟩,⟨rfl,au _,au _,au _,au _⟩⟩ (by omega)
 subst H;exact⟨o,U,by simp[O],f⟩
end
theorem OX:∀n,n<3->(e3 (nD n)).2.1=0:=by decide +kernel
structure uM(σ:pd)(n:Nat):Prop where
 ok:w8 σ n
 may:σ.out.all bR=true
 wf:∀e∈σ.out,nI e
 there:∀k∈σ.there,1<=k/\k<=n
theorem RG(v:Nat)(h:0<v)(k:v<=1000):bR { bN with k:=3,v:=(v:Nat) }=true:=by
 unfold bR;rw[ae (by simp only;omega)];simp[bN];omega
theorem RJ(v n:Nat)(k:v<=1000)(c:n<3):bR { bN with k:=4,v:=(v:Nat),x:=nD n }=true:=by
 unfold bR;rw[ae (by simp only;omega)];have a:=OX n c;have b:(nD n).length<=300:=by unfold nD;split<;>(try split)<;>simp
 simp[bN,a,b]
theorem RF(v i:Nat)(k:v<=1000)(a:1<=i)(b:i<=1000):bR { bN with k:=2,v:=(v:Nat),i:=(i:Nat) }=true:=by
 unfold bR;rw[ae (by simp only;omega)];simp[bN,lj];omega
theorem RD(v i t f o u:Nat)(k:v<=1000)(a:1<=i)(b:i<=1000)(c:t<4)(d:f<o)(e:o<=100000):bR { k:=1,v:=(v:Nat),i:=(i:Nat),t:=(t:Nat),f:=(f:Nat),o:=(o:Nat),u:=(u:Nat),x:=[] }=true:=by
 unfold bR;rw[ae (by simp only;omega)];simp[lj];omega
theorem uM.step{σ:pd}{n:Nat}(h:uM σ n)(z:n<40)(k:Nat):uM (de σ k) (n+1):=by
 have ok:=h.ok.step k;obtain⟨⟨r,t,u,w,y⟩,may,g,there⟩:=h;have all:∀{l:List bM} {e:bM},l.all bR=true->bR e=true->(l++[e]).all bR=true:=λa b=>by simp only[Eg,a,nq,b,Eh];rfl
 have d:∀{l:List bM} {e:bM},(∀x∈l,nI x)->nI e->∀x∈l++[e],nI x:=λa b x c=>by
  rcases dP.1 c with h | h
  ·exact a x h
  ·rw[df.1 h];exact b
 have main:(de σ k).out.all bR=true/\(∀e∈(de σ k).out,nI e)/\∀i∈(de σ k).there,1<=i/\i<=n+1:=by
  unfold de;split
  ·exact⟨all may (RG _ (by omega) (by omega)),d g ⟨by simp[bN],by simp[bN]⟩,λx c=>by have:=there x c;omega⟩
  ·split
   ·exact⟨all may (RJ _ _ (by omega) (di _ (by decide))),d g ⟨by simp[bN],by simp[bN]⟩,λx c=>by have:=there x c;omega⟩
   ·split
    ·rename_i o;have j:k / 8%σ.there.length<σ.there.length:=di _ o.2;have q:=there _ (mY j);refine⟨all may (RF _ _ (by omega) ?_ ?_),d g ⟨by simp[bN],by simp[bN]⟩,λx c => ?_⟩
     ·rw[dq,aU j,nh];exact q.1
     ·rw[dq,aU j,nh];omega
     ·have:x∈σ.there:=by
       rcases dP.1 c with h | h
       ·exact nc h
       ·exact zK h
      have:=there x this;omega
    ·have B:k / 8%30<30:=di _ (by decide);refine⟨all may (RD _ _ _ _ _ _ (by omega) (by omega) (by omega) (di _ (by decide)) (by omega) (by omega)),d g ⟨by simp only;omega,by simp only;omega⟩,λx c => ?_⟩;rcases dP.1 c with h | h
     ·have:=there x h;omega
     ·rw[df.1 h];omega
 exact⟨ok,main.1,main.2.1,main.2.2⟩
theorem x8:∀(ks:List Nat),ks.length<=40->uM (nB ks) ks.length:=by
 suffices ∀n (ks:List Nat),ks.length=n->n<=40->uM (nB ks) n from λks h=>this _ ks rfl h
 intro n;induction n with
 |zero=>
  intro ks h _;obtain rfl:=cJ h;exact⟨⟨rfl,au _,au _,au _,au _⟩,rfl,(λ_ h=>by cases h),(λ_ h=>by cases h)⟩
 |succ n d=>
  intro ks h g;have c:ks≠[]:=λe=>by rw[e]at h;cases h
  rw[<-List.dropLast_concat_getLast c,vY];exact(d ks.dropLast (by rw[Ft];omega) (by omega)).step (by omega) _
theorem HB{σ:pd}(h:∀e∈σ.out,e.x.length<=10)(k:Nat):∀e∈(de σ k).out,e.x.length<=10:=by
 have add:∀{l:List bM} {e:bM},(∀x∈l,x.x.length<=10)->e.x.length<=10->∀x∈l++[e],x.x.length<=10:=λa b x c=>by
  rcases dP.1 c with h | h
  ·exact a x h
  ·rw[df.1 h];exact b
 unfold de;split
 ·exact add h (by simp[bN])
 ·split
  ·exact add h (by unfold nD;simp only;split<;>(try split)<;>simp)
  ·split
   ·exact add h (by simp[bN])
   ·exact add h (by simp)
theorem OS(ks:List Nat):∀e∈(nB ks).out,e.x.length<=10:=by
 unfold nB
 suffices ∀(ks:List Nat) σ,(∀e∈σ.out,e.x.length<=10)->∀e∈(ks.foldl de σ).out,e.x.length<=10 from this ks _ (λe h=>by cases h)
 intro ks;induction ks with
 |nil=>intro σ h;exact h
 |cons k r c=>intro σ h;exact c _ (HB h k)
theorem qB:∀l:List bM,(∀e∈l,e.x.length<=10)->(bj l).length<=92*l.length
 | [],_=>by simp[bj]
 |e::r,h=>by
  have d:=qB r λx c=>h x (by simp[c])
  have g:e.x.length<=10:=h e (by simp);have j:=aX e.v.toNat;have k:=ma (dU e);have n:=qO e;have o:=ym (bF e);have q:(bF e).length<=77:=by simp[bF];omega
  simp[bj];omega
theorem HC(vs:List Int):(bj (nA vs)).length<=3680:=by
 have b:=qB (nA vs) (OS _)
 have c:(nA vs).length<=40:=by
  have a:((vs.take 40).map lV).length<=40:=by simp;omega
  have h:=x8 _ a;unfold nA;rw[h.ok.out];exact a
 omega
theorem HD(vs:List Int):(nA vs).all bR=true/\(∀e∈nA vs,nI e)/\(nA vs).length<=40:=by
 have a:((vs.take 40).map lV).length<=40:=by simp;omega
 have h:=x8 _ a;exact⟨h.may,h.wf,by unfold nA;rw[h.ok.out];exact a⟩
section
variable {s t u s0:St}{x y b:S}{l:List e8}{bs:Bs}{k:Nat}
theorem sC(d:Nat)(c:1<=k)(e:k<=3):R (d+1) 156 [J k] s=some (J (wK k),s):=by
 rw[JD];unfold f156;rcases (by omega:k=1\/k=2\/k=3)with rfl | rfl | rfl<;>rfl
theorem CU(d:Nat)(c:1<=k)(e:k<=3):R (d+1) 233 [J k] s=some (B true,s):=by
 rw[Kc];unfold f233;rcases (by omega:k=1\/k=2\/k=3)with rfl | rfl | rfl<;>rfl
theorem xq(d:Nat)(i:1<=k)(j:k<=3){f:Int}(o:0<=f)(p:f<=1099511627776):R (d+2) 200 [J f,J k] s=some (J (f-f%wK k),s):=by
 have h:=sC (s:=s) d i j;have t:=kr k;have c:wK k≠0:=by omega
 have q:=Mo f c;have r:=Mn f (show 0<wK k by omega)
 have n:ah .rem (J f) (J (wK k))=some (J (f%wK k)):=by
  obtain⟨a,l⟩:∃a:Nat,(a:Int)=f:=⟨f.toNat,by omega⟩;obtain⟨b,m⟩:∃b:Nat,(b:Int)=wK k:=⟨(wK k).toNat,by omega⟩;rw[<-l,<-m,jx .i64 a b (by omega)];rfl
 have w1:IntKind.i64.wrap (f-f%wK k)=f-f%wK k:=aw _ (by omega) (by omega);rw[J2];unfold f200;have e:¬f<0:=by omega
 have g:¬1099511627776<f:=by omega
 generalize R (d+1)=u at*;simp[h,c,e,g,n,w1]
theorem xF{i:Nat}{w:Bool}{e:e8}{g:Mem}(h:g i=some (.K w (cA e))):ay 7 (Z (.ptr i 0)) g=some (AA e):=by
 simp[ay,h,cA]
theorem L5{i:Nat}{vs:List S}{e:e8}(h:s.get i=some (.K true vs))(b:vs.length=7):aj 7 (Z (.ptr i 0)) (AA e) s=some (tt,s.set i (.K true (cA e))):=by
 have a:(V.agg (cA e)).cells.length=7/\0+7<=vs.length:=⟨rfl,by omega⟩;simp only[aj,h,af a];rw[show(V.agg (cA e)).cells=cA e from rfl,cK (by rw[b];rfl)]
theorem Rw(a b:e8):lu (.a 7 [(0,.i),(1,.i),(2,.i),(3,.i),(4,.i),(5,.i),(6,.i)]) (AA a) (AA b)=some (B (decide (a=b))):=by
 have h:yt (.a 7 [(0,.i),(1,.i),(2,.i),(3,.i),(4,.i),(5,.i),(6,.i)]) (AA a) (AA b)=some (decide (a=b)):=by
  obtain⟨c,d,e,f,g,j,k⟩:=a;obtain⟨l,m,n,o,p,q,r⟩:=b;show some (decide (c=l)&&(decide (d=m)&&(decide (e=n)&&(decide (f=o)&&(decide (g=p)&&(decide (j=q)&&(decide (k=r)&&true)))))))=some (decide (e8.mk c d e f g j k=e8.mk l m n o p q r))
  simp only[e8.mk.injEq,np,p6]
 simp only[lu,h]
theorem IG(g:s.wf)(e:e8):∃b a,aE s (a6 [iz,iz,iz,iz,iz,iz,iz])=some (Z (.ptr s.size 0),b)/\aj 7 (Z (.ptr s.size 0)) (AA e) b=some (tt,a)/\Gr s a/\a.get s.size=some (.K true (cA e))/\a.size=s.size+1:=by
 have d:(s.push (.K true [iz,iz,iz,iz,iz,iz,iz])).get s.size=some (.K true [iz,iz,iz,iz,iz,iz,iz]):=St.ec;have f:((s.push (.K true [iz,iz,iz,iz,iz,iz,iz])).set s.size (.K true (cA e))).get s.size=some (.K true (cA e)):=St.dh;exact⟨_,_,rfl,L5 d rfl,⟨St.wf_set (St.bo g _) (by simp) _,by simp,λc h=>by rw[St.bO (by omega),St.j5 (by omega)]⟩,f,by simp⟩
theorem Ou(d:Nat)(B:s.wf)(v f:Int):∃t,R (d+1) 258 [.v (.agg [iz,.int .i64 v]),J f] s=some (AA ⟨f,1,v,v,v,v,v⟩,t)/\Gr s t:=by
 obtain⟨s1,b⟩:=aZ (s.push (.K true [iz,.int .i64 v]));have m:aE s (b6 (.v (.agg [iz,.int .i64 v])))=some (Z (.ptr s.size 0),s1):=by rw[b];rfl
 have k:Gr s s1:=by rw[b];exact Gr.push B _
 have x:s1.get s.size=some (.K true [iz,.int .i64 v]):=by rw[b];exact St.ec
 obtain⟨s2,h⟩:=aZ (s1.push (.K true [iz,iz,iz,iz,iz,iz,iz]));have n:aE s1 (a6 [iz,iz,iz,iz,iz,iz,iz])=some (Z (.ptr s1.size 0),s2):=by rw[h];rfl
 have r:Gr s1 s2:=by rw[h];exact Gr.push k.wf _
 have q:s2.get s1.size=some (.K true [iz,iz,iz,iz,iz,iz,iz]):=by rw[h];exact St.ec
 have A:aa (Z (.ptr s.size 1)) s2.get=some (J v):=ag (r.get x k.wf) rfl;obtain⟨e,l⟩:=aZ (⟨f,1,v,v,v,v,v⟩:e8);have u:aO (aA [iz,iz,iz,iz,iz,iz,iz] [(0,1,J f),(1,1,(J 1)),(2,1,J v),(3,1,J v),(4,1,J v),(5,1,J v),(6,1,J v)])=some (AA e):=by rw[l];rfl
 obtain⟨o,j⟩:=aZ (s2.set s1.size (.K true (cA e)));have p:aj 7 (Z (.ptr s1.size 0)) (AA e) s2=some (tt,o):=by rw[j];exact L5 q rfl
 have z:=xF (e:=e) (g:=o.get) (i:=s1.size) (w:=true) (by rw[j];exact St.dh);have z1:s1.size=s.size+1:=by rw[b];simp
 refine⟨o,?_,?_⟩
 ·rw[<-l,Kf];unfold f258;clear l;simp[m,n,A,u,p,z,rC,rT,aD,a8]
 ·have a:=k.trans r;rw[j];exact⟨St.wf_set a.wf (a.wf.lt q) _,by simpa using a.2.1,λc y=>by rw[St.bO (by omega)];exact a.2.2 c y⟩
theorem Iv(d:Nat)(Sk:s.wf)(x:e8):∃t,R (d+2) 234 [AA x] s=some (B (jl x),t)/\Gr s t:=by
 obtain⟨s1,k⟩:=aZ (s.push (.K true (cA x)));have c:aE s (b6 (AA x))=some (Z (.ptr s.size 0),s1):=by rw[k];rfl
 have q:Gr s s1:=by rw[k];exact Gr.push Sk _
 have h:s1.get s.size=some (.K true (cA x)):=by rw[k];exact St.ec
 have m:aa (Z (.ptr s.size 0)) s1.get=some (J x.f):=ag h rfl;have o:aa (Z (.ptr s.size 1)) s1.get=some (J x.n):=ag h rfl;have q2:aa (Z (.ptr s.size 2)) s1.get=some (J x.s):=ag h rfl;have N:aa (Z (.ptr s.size 3)) s1.get=some (J x.mn):=ag h rfl;have O:aa (Z (.ptr s.size 4)) s1.get=some (J x.mx):=ag h rfl;have P:aa (Z (.ptr s.size 5)) s1.get=some (J x.a):=ag h rfl;have Q:aa (Z (.ptr s.size 6)) s1.get=some (J x.z):=ag h rfl;have Sj:=xF (g:=s1.get) h;obtain⟨T,G,H⟩:=Ou d q.wf x.s x.f;have l2:=xF (g:=T.get) (H.get h q.wf);have U:aO (aA [iz,iz] [(1,1,J x.s)])=some (.v (.agg [iz,.int .i64 x.s])):=rfl;have A:∀a b:Int,(if b<a then b else a)=min a b:=λa b=>by split<;>omega
 obtain⟨w,y⟩:=aZ (min (min x.a x.z) x.mx)
 have M:kz l3 (J x.a) [J x.z,J x.mx]=some (J w):=by
  rw[y];simp only[kz,l3,A]
 by_cases h1:x.n<1\/1099511627776<x.n\/x.f<0\/1099511627776<x.f
 ·have r:jl x=false:=by
   unfold jl;rw[Mj];exact .inl (aR (by omega))
  rw[r];refine⟨s1,?_,q⟩;rw[vh];unfold f234;generalize R (d+1)=S at*;by_cases i:x.n<1
  ·simp[c,m,o,i,bD]
  ·by_cases l:1099511627776<x.n
   ·simp[c,m,o,i,l,bD]
   ·by_cases p:x.f<0
    ·simp[c,m,o,i,l,p,bD]
    ·have u:1099511627776<x.f:=(by omega);simp[c,m,o,i,l,p,u,bD]
 ·have i:¬x.n<1:=by omega
  have l:¬1099511627776<x.n:=by omega
  have p:¬x.f<0:=by omega
  have u:¬1099511627776<x.f:=by omega
  have I:decide (1<=x.n/\x.n<=1099511627776/\0<=x.f/\x.f<=1099511627776)=true:=aK (by omega);by_cases j:x.n=1
  ·have r:jl x=decide (x=⟨x.f,1,x.s,x.s,x.s,x.s,x.s⟩):=by
    unfold jl;rw[I,af j,dX];apply decide_eq_decide.2;constructor
    ·rintro⟨C,D,E,F⟩;cases x;simp only at j C D E F ⊢;rw[j,C,D,E,F]
    ·intro e;cases x
     injection e with e1 G e3 V W X Y
     exact⟨V,W,X,Y⟩
   have eq:=Rw x ⟨x.f,1,x.s,x.s,x.s,x.s,x.s⟩;rw[<-r]at eq;refine⟨T,?_,q.trans H⟩;rw[vh];unfold f234;generalize R (d+1)=S at*;simp[c,m,o,i,l,p,u,j,Sj,q2,U,G,eq,l2,bD]
  ·have r:jl x=(decide (x.mn<=w)&&decide (max x.a x.z<=x.mx)):=by
    unfold jl;rw[I,ae j,dX,<-p6];apply decide_eq_decide.2;omega
   rw[r];refine⟨s1,?_,q⟩;rw[vh];unfold f234;generalize R (d+1)=S at*;by_cases L:x.mn<=w
   ·simp[c,m,o,i,l,p,u,j,N,O,P,Q,M,L,bD]
   ·simp[c,m,o,i,l,p,u,j,N,O,P,Q,M,L,bD]
abbrev RA(s:St)(x:S)(l:List e8):Prop:=Rd 7 s x l.length (cells cA l)
theorem RA.Gf(h:RA s x l){j:Nat}{n:Int}{e:e8}(i:n=j)(a:l[j]? = some e):∃c p,ar 7 (Z x) (J n)=some (Z (.ptr c p))/\ay 7 (Z (.ptr c p)) s.get=some (AA e)/\aa (Z (.ptr c p)) s.get=some (J e.f):=by
 obtain⟨c,p,d,g,b⟩:=Rd.at h i (bq.1 a).1;rw[ji IJ a]at b;exact⟨c,p,d,b,g 0 _ (by omega) (by rw[jh IJ a (by omega)];rfl)⟩
theorem nO(d:Nat)(Sn:s.wf)(h1:1<=k)(h3:k<=3)(h:RA s x l)(Sj:∀c,own x=some c->c<s.size)(hl:l.length<=8000):∃t,R (d+3) 197 [Z x,J k] s=some (B (bW (wK k) (-1) l),t)/\Gr s t:=by
 have Sl:=h.lens;have Sk:=CU (s:=s) (d+1) h1 h3;have hw:=kr k
 obtain⟨j,Sp,lp,hj,g⟩:=aL (f:=mz (R (d+2)) 8192)
  (λq v u=>∃(i:Nat) (last:Int),q+i=l.length/\v=[J k,J last,Z x,J l.length,J i]/\Gr s u/\bW (wK k) last (l.drop i)=bW (wK k) (-1) l)
  (λj u=>((j = .exit 0 []/\bW (wK k) (-1) l=true)\/(j = .ret (B false)/\bW (wK k) (-1) l=false))/\Gr s u) (by
  rintro q v u ⟨i,last,hq,rfl,g,e⟩;by_cases hk:i<l.length
  ·obtain⟨a,ha⟩:=aZ (l[i]);have V:l[i]? = some a:=by rw[aU hk,ha]
   have U:l.drop i=a::l.drop (i+1):=by rw[cU hk,ha]
   rw[U,show bW (wK k) last (a::l.drop (i+1))=(jl a&&decide (a.f%wK k=0)&&decide (last<a.f)&&bW (wK k) a.f (l.drop (i+1))) from rfl]at e;obtain⟨c,p,G,I,_⟩:=RA.Gf (h.gr Sj g) (n:=(i:Int)) rfl V;obtain⟨u1,u2,C,D,T,b2,z2⟩:=IG g.wf a;have H:=xF (g:=u2.get) b2;obtain⟨r,o,g3⟩:=Iv d T.wf a;have f3:aa (Z (.ptr u.size 0)) r.get=some (J a.f):=ag (g3.get b2 T.wf) rfl;have z:(i:Int)<(l.length:Int):=by omega
   have w1:IntKind.i64.wrap ((i:Int)+1)=((i+1:Nat):Int):=by rw[aw _ (by omega) (by omega)];omega
   have F:=(g.trans T).trans g3;cases Y:jl a with
   |false=>
    right;rw[Y]at o e;refine⟨.ret (B false),r,?_,(λv h=>by cases h),.inr ⟨rfl,by rw[<-e];rfl⟩,F⟩;unfold mz;generalize R (d+2)=N at*;simp[z,G,I,C,D,H,o,wq,bD]
   |true=>
    rw[Y]at o e;obtain⟨⟨_,_,Sm,f1⟩,_⟩:=dF Y;have E:=xq (s:=r) d h1 h3 Sm f1;by_cases w:a.f%wK k=0
    ·have O:a.f-a.f%wK k=a.f:=(by omega);rw[O]at E;by_cases y:last<a.f
     ·left;refine⟨[J k,J a.f,Z x,J l.length,J ((i+1:Nat):Int)],r,q-1,?_,by omega,i+1,a.f,by omega,rfl,F,?_⟩
      ·unfold mz;have Q:¬a.f<=last:=(by omega);generalize R (d+2)=N at*;simp[z,G,I,C,D,H,o,f3,E,Q,w1,wq,bD]
      ·rw[<-e];simp[w,y]
     ·right;refine⟨.ret (B false),r,?_,(λv h=>by cases h),.inr ⟨rfl,by rw[<-e];simp[y]⟩,F⟩;unfold mz;have Q:a.f<=last:=(by omega);generalize R (d+2)=N at*;simp[z,G,I,C,D,H,o,f3,E,Q,wq,bD]
    ·right;have O:¬a.f=a.f-a.f%wK k:=(by omega);refine⟨.ret (B false),r,?_,(λv h=>by cases h),.inr ⟨rfl,by rw[<-e];simp[w]⟩,F⟩;unfold mz;generalize R (d+2)=N at*;simp[z,G,I,C,D,H,o,f3,E,O,wq,bD]
  ·right;have X:i=l.length:=by omega
   subst X;rw[e7]at e;refine⟨.exit 0 [],u,?_,(λv h=>by cases h),.inl ⟨rfl,e.symm⟩,g⟩;unfold mz;simp)
  8192 l.length _ s ⟨0,-1,by omega,rfl,Gr.refl Sn,by simp⟩ (by omega)
 refine⟨Sp,?_,g⟩;rw[JZ];unfold f197;have S:((0:Nat):Int)=0:=rfl;rw[S]at lp;generalize R (d+2)=N at*;rcases hj with ⟨rfl,e⟩ | ⟨rfl,e⟩
 ·rw[e];simp[Sk,Sl,lp]
 ·rw[e];simp[Sk,Sl,lp]
end
section
variable {s t u s0:St}{x y b:S}{l:List e8}{bs acc:Bs}{k V:Nat}
theorem oU{a c:Int}(h:c<=a)(b:I6 a)(d:I6 c):ah .sub (J6 (IntKind.u64.wrap a)) (J6 (IntKind.u64.wrap c))=some (J6 ((a-c).toNat:Nat)):=by
 unfold I6 at b d;rw[iR]
 congr 3
 unfold IntKind.wrap;simp[IntKind.signed,IntKind.bits];omega
theorem gQ{a:Int}(b:0<=a)(c:a<9223372036854775808):az .u64 (J a)=some (J6 (a.toNat:Nat)):=by
 rw[aY];have:=wrap64 a.toNat (by omega);rw[show(a.toNat:Int)=a by omega]at this;rw[this,show(a.toNat:Int)=a by omega]
theorem FB.ra(h:FB s0 u b bs)(i:s0.size<=V)(f:own b≠some V)(g:t.wf)(j:t.size=u.size)(d:∀c,c≠V->t.get c=u.get c):FB s0 t b bs:=by
 refine⟨⟨g,by have:=h.gr.2.1;omega,λc a=>by rw[d c (by omega),h.gr.2.2 c a]⟩,h.ow.keep λc a=>d c λe=>f (by rw[a,e]),λc a => ?_⟩;have:=h.new c a;omega
structure Al(s0:St)(V:Nat)(u:St)(b:S)(acc:Bs):Prop where
 v:u.get V=some (.K true [b])
 lo:s0.size<=V
 fb:FB s0 u b acc
 ne:own b≠some V
theorem IX{Q:Program}{aC:bc}{a:List (Nat×Nat)}{args:List T}{σ:St}{f:FuncId}(b:fO Q f=true):dyn Q aC (Z (.jX f a)) args σ=aC f (args++a.map yF) σ:=by
 simp only[dyn,b,bY]
theorem k6(d:Nat)(h:Al s0 V u b acc)(n:Nat)(U:n<2 ^ 64)(hl:acc.length<=100000):∃H z,dyn Tryz.prog (R (d+2)) (Z (.jX 198 [(V,0)])) [J6 n] u=some (.c6 [],z)/\Al s0 V z H (acc++aq n)/\u.size<=z.size ∧
 (∀c,c<u.size->c≠V->own b≠some c->z.get c=u.get c)/\(∀c,own H=some c->own b=some c\/u.size<=c):=by
 obtain⟨E,q,y,r⟩:=h;have S:=y.gr.wf.lt E;obtain⟨y1,u1,O,o⟩:=fZ d y.gr.wf n U;obtain⟨x,t,Q,B,z2,I,n2⟩:=FB.MF (Fr.j6 y o.gr) o.rd (by have:=aX n;omega);have z1:=o.gr.2.1;have X:aa (Z (.ptr V 0)) u.get=some (Z b):=ag E rfl;have v1:=o.gr.get E y.gr.wf;have Y:aa (Z (.ptr V 0)) u1.get=some (Z b):=ag v1 rfl;have N:t.get V=some (.K true [b]):=by rw[I V (by omega) r];exact v1
 have k:own x≠some V:=λe=>by
  rcases n2 with n | n | ⟨c,n,g⟩
  ·rw[n]at e;cases e
  ·rw[n]at e;exact r e
  ·rw[n]at e;cases e;omega
 obtain⟨w,j⟩:=aZ (t.set V (.K true [x]));have F:aj 1 (Z (.ptr V 0)) (Z x) t=some (tt,w):=by rw[j];exact aJ N (by simp)
 have G:w.wf:=by rw[j];exact St.wf_set B.gr.wf (B.gr.wf.lt N) _
 have z3:w.size=t.size:=by rw[j];simp
 have J:∀c,c≠V->w.get c=t.get c:=λc g=>by rw[j];exact St.bO g
 refine⟨x,w,?_,⟨by rw[j];exact St.dh,q,FB.ra B q k G z3 J,k⟩,by omega,λc g C D => ?_,λc g => ?_⟩
 ·rw[IX (by kernel_rfl)];show R (d+2) 198 [J6 n,Z (.ptr V 0)] u=_
  rw[J0];unfold f198;generalize R (d+1)=rr at*;simp[X,O,Q,F,Y,aD,a8]
 ·rw[J c C,I c (by omega) D,o.gr.2.2 c g]
 ·rcases n2 with n | n | ⟨c',n,T⟩
  ·rw[n]at g;cases g
  ·rw[n]at g;exact .inl g
  ·rw[n]at g;cases g;exact .inr (by omega)
theorem tG{a c:Int}(b : -9223372036854775808<=a-c)(d:a-c<9223372036854775808):ah .sub (J a) (J c)=some (J (a-c)):=by
 rw[iR,aw _ b d]
theorem oV(d:Nat){w f:Int}(j:1<=w/\w<=1440)(g:0<=f)(h:f<=1099511627776):ah .quo (J f) (J w)=some (J (f / w)):=by
 obtain⟨a,b⟩:∃a:Nat,(a:Int)=f:=⟨f.toNat,by omega⟩;obtain⟨c,e⟩:∃c:Nat,(c:Int)=w:=⟨w.toNat,by omega⟩;have i:a / c<=a:=FO _ _;rw[<-b,<-e,qW .i64 a c (by omega) (fJ _ (by omega))];rfl
theorem CI(d:Nat){i:Nat}{last lastF:Int}(h1:1<=k)(h3:k<=3)(h:RA s0 x l)(SB:∀c,own x=some c->c<s0.size)(w:Al s0 V u b acc)(hk:i<l.length)(hl:l.length<=64)(hi:∀a∈l,IA a)
 (Q:bW (wK k) lastF (l.drop i)=true) (Sz : -1<=last/\last<=1099511627776) (X:∀a,l[i]? = some a->last<a.f / wK k) (SK:acc.length<=77*i+11) :
 ∃u' b' a,l[i]? = some a/\oJ (R (d+2)) 8192 [J k,Z (.ptr V 0),Z (.jX 198 [(V,0)]),J last,Z x,J l.length,J i] u=some (.normal [J k,Z (.ptr V 0),Z (.jX 198 [(V,0)]),J (a.f / wK k),Z x,J l.length,J ((i+1:Nat):Int)],u') ∧
  Al s0 V u' b' (acc++da a (a.f / wK k-last-1))/\bW (wK k) a.f (l.drop (i+1))=true/\jl a=true/\a.f%wK k=0:=by
 have SJ:(i:Int)<(l.length:Int):=by omega
 have w1:IntKind.i64.wrap ((i:Int)+1)=((i+1:Nat):Int):=by rw[aw _ (by omega) (by omega)];omega
 obtain⟨a,O⟩:=aZ (l[i]);have t:l[i]? = some a:=by rw[aU hk,O]
 have r:=hi a (bS t);have hw:=kr k;rw[cU hk,<-O,show bW (wK k) lastF (a::l.drop (i+1))=(jl a&&decide (a.f%wK k=0)&&decide (lastF<a.f)&&bW (wK k) a.f (l.drop (i+1))) from rfl,aM,aM,aM,bK,bK]at Q;obtain⟨⟨⟨SA,SL⟩,SP⟩,S⟩:=Q;obtain⟨⟨n1,n2,Sx,f1⟩,SM,SU,o2,o3,o4,o5⟩:=dF SA;have SQ:0<=a.f / wK k:=gG Sx (by omega);have SR:a.f / wK k<=a.f:=oA _ Sx;have SO:=X a t;have hu:=h.gr SB w.fb.gr;obtain⟨cc,p,ix,ld,_⟩:=RA.Gf hu (n:=(i:Int)) rfl t;obtain⟨u1,u2,e1,e2,g2,b2,z2⟩:=IG w.fb.gr.wf a;have SN:=w.fb.gr.wf.lt w.v;have Sy:Al s0 V u2 b acc:=⟨g2.get w.v w.fb.gr.wf,w.lo,Fr.j6 w.fb g2,w.ne⟩;have T:own b≠some u.size:=λe=>by have:=(w.fb.new _ e).2;omega
 have e3:=sC (s:=u2) (d+1) h1 h3;have q1:=oV d hw Sx f1;have s1:ah .sub (J (a.f / wK k)) (J last)=some (J (a.f / wK k-last)):=tG (by omega) (by omega);have s2:ah .sub (J (a.f / wK k-last)) (J 1)=some (J (a.f / wK k-last-1)):=tG (by omega) (by omega);have v1:=gQ (a:=a.f / wK k-last-1) (by omega) (by omega);have s3:ah .sub (J a.n) (J 1)=some (J (a.n-1)):=tG (by omega) (by omega);have v3:=gQ (a:=a.n-1) (by omega) (by omega);obtain⟨P1,o⟩:∃P,P=(a.f / wK k-last-1).toNat:=⟨_,rfl⟩;obtain⟨P2,q⟩:∃P,P=(a.n-1).toNat:=⟨_,rfl⟩;obtain⟨P3,j⟩:∃P,P=cZ a.mn:=⟨_,rfl⟩;have g:=r.mn;have L1:=aX P1;have L2:=aX P2;have L3:=aX P3;obtain⟨b3,u3,e4,C3,z3,k3,n3⟩:=k6 d Sy P1 (by omega) (by omega);have x3:u3.get u.size=some (.K true (cA a)):=by rw[k3 _ (by omega) (by omega) T];exact b2
 have B:own b3≠some u.size:=λe=>by rcases n3 _ e with h | h;exact T h;omega
 obtain⟨b4,u4,e5,C4,z4,k4,n4⟩:=k6 d C3 P2 (by omega) (by rw[aI];omega);have x4:u4.get u.size=some (.K true (cA a)):=by rw[k4 _ (by omega) (by omega) B];exact x3
 have C:own b4≠some u.size:=λe=>by rcases n4 _ e with h | h;exact B h;omega
 have e6:=rq (s:=u4) (d+1) g;rw[<-j]at e6;obtain⟨b5,u5,e7,C5,z5,k5,n5⟩:=k6 d C4 P3 (by rw[j];exact fE g) (by rw[aI,aI];omega);have x5:u5.get u.size=some (.K true (cA a)):=by rw[k5 _ (by omega) (by omega) C];exact x4
 have D:own b5≠some u.size:=λe=>by rcases n5 _ e with h | h;exact C h;omega
 have Sk:aa (Z (.ptr u.size 0)) u2.get=some (J a.f):=ag b2 rfl;have Sl:aa (Z (.ptr u.size 1)) u3.get=some (J a.n):=ag x3 rfl;have Sm:aa (Z (.ptr u.size 3)) u4.get=some (J a.mn):=ag x4 rfl;have I:aa (Z (.ptr u.size 1)) u5.get=some (J a.n):=ag x5 rfl;rw[<-o]at v1;rw[<-q]at v3;by_cases Y:a.n=1
 ·refine⟨u5,b5,a,t,?_,?_,S,SA,SL⟩
  ·rw[Y]at I;unfold oJ;clear o q j C3 C4 C5;generalize R (d+2)=rr at*;clear Y;simp[SJ,ix,ld,e1,e2,Sk,e3,q1,s1,s2,v1,e4,Sl,s3,v3,e5,Sm,e6,e7,I,w1]
  ·have:da a (a.f / wK k-last-1)=aq P1++(aq P2++(aq P3++[])):=by unfold da;rw[af Y,o,q,j]
   rw[this];have:=C5
   simpa[bg]using this
 ·obtain⟨P4,F⟩:∃P,P=(a.mx-a.mn).toNat:=⟨_,rfl⟩;obtain⟨P5,y⟩:∃P,P=cZ a.s:=⟨_,rfl⟩;obtain⟨P6,G⟩:∃P,P=(a.a-a.mn).toNat:=⟨_,rfl⟩;obtain⟨P7,H⟩:∃P,P=(a.z-a.mn).toNat:=⟨_,rfl⟩;have Sj:=r.mx;have ia:=r.a;have iz:=r.z;have is:=r.s;have d4:=oU o3 Sj g;have d6:=oU SU ia g;have d7:=oU o2 iz g;rw[<-F]at d4;rw[<-G]at d6;rw[<-H]at d7;have h4:P4<2 ^ 64:=by unfold I6 at Sj g;omega
  have h6:P6<2 ^ 64:=by unfold I6 at ia g;omega
  have h7:P7<2 ^ 64:=by unfold I6 at iz g;omega
  have L4:=aX P4;have L5:=aX P5;have L6:=aX P6;have L7:=aX P7;obtain⟨b6,u6,e8,C6,z6,SS,n6⟩:=k6 d C5 P4 h4 (by rw[aI,aI,aI];omega);have x6:u6.get u.size=some (.K true (cA a)):=by rw[SS _ (by omega) (by omega) D];exact x5
  have E:own b6≠some u.size:=λe=>by rcases n6 _ e with h | h;exact D h;omega
  have e9:=rq (s:=u6) (d+1) is;rw[<-y]at e9;obtain⟨b7,u7,Su,C7,z7,k7,n7⟩:=k6 d C6 P5 (by rw[y];exact fE is) (by simp only[aI];omega);have x7:u7.get u.size=some (.K true (cA a)):=by rw[k7 _ (by omega) (by omega) E];exact x6
  have U:own b7≠some u.size:=λe=>by rcases n7 _ e with h | h;exact E h;omega
  obtain⟨b8,u8,Sv,C8,z8,k8,n8⟩:=k6 d C7 P6 h6 (by simp only[aI];omega);have x8:u8.get u.size=some (.K true (cA a)):=by rw[k8 _ (by omega) (by omega) U];exact x7
  obtain⟨b9,u9,Sw,C9,z9,SV,n9⟩:=k6 d C8 P7 h7 (by simp only[aI];omega);have SD:aa (Z (.ptr u.size 4)) u5.get=some (J a.mx):=ag x5 rfl;have SC:aa (Z (.ptr u.size 3)) u5.get=some (J a.mn):=ag x5 rfl;have SE:aa (Z (.ptr u.size 2)) u6.get=some (J a.s):=ag x6 rfl;have SF:aa (Z (.ptr u.size 5)) u7.get=some (J a.a):=ag x7 rfl;have SG:aa (Z (.ptr u.size 3)) u7.get=some (J a.mn):=ag x7 rfl;have SI:aa (Z (.ptr u.size 6)) u8.get=some (J a.z):=ag x8 rfl;have SH:aa (Z (.ptr u.size 3)) u8.get=some (J a.mn):=ag x8 rfl;have N:∀n:Int,az .u64 (J n)=some (J6 (IntKind.u64.wrap n)):=λn=>aY ..
  have Sn:=N a.mx;have Ss:=N a.mn;have Sp:=N a.a;have Sr:=N a.z;refine⟨u9,b9,a,t,?_,?_,S,SA,SL⟩
  ·unfold oJ;clear o q j F y G H C3 C4 C5 C6 C7 C8 C9 N;generalize R (d+2)=rr at*;simp[SJ,ix,ld,e1,e2,Sk,e3,q1,s1,s2,v1,e4,Sl,s3,v3,e5,Sm,e6,e7,I,Y,SD,SC,Sn,Ss,d4,e8,SE,e9,Su,SF,SG,Sp,d6,Sv,SI,SH,Sr,d7,Sw,w1]
  ·have:da a (a.f / wK k-last-1)=aq P1++(aq P2++(aq P3++(aq P4++(aq P5++(aq P6++aq P7))))):=by unfold da;rw[ae Y,o,q,j,F,y,G,H]
   rw[this];have:=C9
   simpa only[bg]using this
end
section
variable {s t u s0:St}{x y b bx lx:S}{l:List e8}{bs acc:Bs}{k V p:Nat}{r:Rr}
theorem CX{w f g:Int}(i:1<=w)(d:f%w=0)(e:g%w=0)(h:f<g):f / w<g / w:=by
 have a:=sF f w;have b:=sF g w;rw[d]at a;rw[e]at b;apply Int.not_le.1;intro c;have:=Mp c (show 0<=w by omega);omega
theorem mm{w last:Int}{a:e8}(h:bW w last l=true)(d:l[0]? = some a):jl a=true/\a.f%w=0/\last<a.f:=by
 cases l with
 |nil=>cases d
 |cons c r=>
  have:c=a:=by simpa using d
  subst this;unfold bW at h;rw[aM,aM,aM,bK,bK]at h;exact⟨h.1.1.1,h.1.1.2,h.1.2⟩
theorem xg(d:Nat)(Sv:s.wf)(h1:1<=k)(h3:k<=3)(h:RA s x l)(G:∀c,own x=some c->c<s.size)(U:vG (wK k) l=true)(hi:∀a∈l,IA a) :
 ∃y t,R (d+4) 157 [Z x,J k] s=some (.c6 [.s y,.s (iz)],t)/\FB s t y (dJ (wK k) l):=by
 have g:=U;unfold vG at g;rw[aM]at g;have hl:l.length<=64:=cm g.2;have hw:=kr k;obtain⟨s1,e1,g1⟩:=nO d Sv h1 h3 h G (by omega);rw[g.1]at e1;have Su:=h.lens;have Sk:¬64<(l.length:Int):=by omega
 have Sl:az .u64 (J (l.length:Int))=some (J6 (l.length:Int)):=by rw[aY,wrap64 _ (by omega)]
 obtain⟨b,m,e2,L⟩:=fZ (d+2) g1.wf l.length (by omega);have A:FB s m b (aq l.length):=Fr.from g1 L;have H:s.size<=m.size:=A.gr.2.1;obtain⟨s3,z⟩:=aZ (m.push (.K true [.av]));have V:aE m (a6 [.av])=some (Z (.ptr m.size 0),s3):=by rw[z];rfl
 have M:Gr m s3:=by rw[z];exact Gr.push L.gr.wf _
 have Y:s3.get m.size=some (.K true [.av]):=by rw[z];exact St.ec
 obtain⟨W,n⟩:=aZ (s3.set m.size (.K true [b]));have X:aj 1 (Z (.ptr m.size 0)) (Z b) s3=some (tt,W):=by rw[n];exact aJ Y (by simp)
 have C:own b≠some m.size:=λe=>by have:=(L.new _ e).2;omega
 have f3:FB s s3 b (aq l.length):=Fr.j6 A M;have C4:Al s m.size W b (aq l.length):=⟨by rw[n];exact St.dh,H,FB.ra f3 H C (by rw[n];exact St.wf_set M.wf (M.wf.lt Y) _) (by rw[n];simp) (λc O=>by rw[n];exact St.bO O),C⟩;have cl:tJ 198 [Z (.ptr m.size 0)] []=some (Z (.jX 198 [(m.size,0)])):=rfl
 obtain⟨j,Sj,lp,y,rfl,hF⟩:=aL (f:=oJ (R (d+3)) 8192)
  (λq v u=>∃(i:Nat) (b:S) (last lastF:Int) (acc:Bs),q+i=l.length/\v=[J k,Z (.ptr m.size 0),Z (.jX 198 [(m.size,0)]),J last,Z x,J l.length,J i]/\Al s m.size u b acc/\bW (wK k) lastF (l.drop i)=true/\(-1<=last/\last<=1099511627776) ∧
   (∀a,l[i]? = some a->last<a.f / wK k)/\acc++eW (wK k) last (l.drop i)=dJ (wK k) l/\acc.length<=77*i+11)
  (λj u=>∃y,j = .exit 0 [Z (.ptr m.size 0)]/\Al s m.size u y (dJ (wK k) l)) (by
  rintro q v u ⟨i,b,last,lastF,acc,hq,rfl,hC,N,w,E,o,B⟩;by_cases Q:i<l.length
  ·left;obtain⟨u',b',a,F,e,C',p,Sp,Sn⟩:=CI (d+1) h1 h3 h G hC Q hl hi N w E B;have r:=(dF Sp).1;have Sr:0<=a.f / wK k:=gG r.2.2.1 (by omega);have Ss:a.f / wK k<=a.f:=oA _ r.2.2.1;refine⟨_,u',q-1,e,by omega,i+1,b',a.f / wK k,a.f,_,by omega,rfl,C',p,⟨by omega,by omega⟩,λc O => ?_,?_,?_⟩
   ·have I:=mm (a:=c) p (by rw[nu];simpa using O);exact CX hw.1 Sn I.2.1 I.2.2
   ·have P:l.drop i=a::l.drop (i+1):=by
     rw[aU Q]at F;rw[cU Q,dQ F]
    rw[P]at o;rw[<-o];simp[eW,bg]
   ·have:=rK a (a.f / wK k-last-1);rw[aI];omega
  ·right;have T:i=l.length:=by omega
   subst T;rw[e7]at o;have D:acc=dJ (wK k) l:=by simpa[eW]using o
   subst D;refine⟨.exit 0 [Z (.ptr m.size 0)],u,?_,(λv h=>by cases h),b,rfl,hC⟩;unfold oJ;simp)
  8192 l.length _ W ⟨0,b,-1,-1,aq l.length,by omega,rfl,C4,by rw[ek];exact g.1,by omega,λa ha=>by
   have I:=mm g.1 ha;have:=gG ((dF I.1).1.2.2.1) (show 0<=wK k by omega);omega,by rw[ek];rfl,by have:=aX l.length;omega⟩ (by omega)
 have qF:aa (Z (.ptr m.size 0)) Sj.get=some (Z y):=ag hF.v rfl;refine⟨y,Sj,?_,hF.fb⟩;rw[Be];unfold f157;have Sm:((0:Nat):Int)=0:=rfl;rw[Sm]at lp;simp only[aH,Nat.reduceAdd]at e2;generalize R (d+3)=rr at*;simp[e1,Su,Sk,Sl,e2,V,X,cl,lp,qF,aD,a8,bD]
theorem Ix(d:Nat)(C:s.wf)(r:1<=k)(u:k<=3)(h:RA s x l)(j:∀c,own x=some c->c<s.size)(e:vG (wK k) l=false)(w:l.length<=8000) :
 ∃t,R (d+4) 157 [Z x,J k] s=some (.c6 [.s .av,.s (.int .i64 1)],t)/\Gr s t:=by
 obtain⟨B,g,q⟩:=nO d C r u h j w;have y:=h.lens;refine⟨B,?_,q⟩;rw[Be];unfold f157;unfold vG at e;cases n:bW (wK k) (-1) l with
 |false=>
  rw[n]at g;generalize R (d+3)=z at*;simp[g,aD,a8]
 |true=>
  rw[n]at g e;rw[dX]at e
  have o:64<(l.length:Int):=by
   have:¬l.length<=64:=λh=>by rw[dw h]at e;cases e
   omega
  generalize R (d+3)=z at*;simp[g,y,o,aD,a8]
end
abbrev F3(s0 s:St)(x:S)(l:List e8):Prop:=Fr 7 s0 s x l.length (cells cA l)
section
variable {s t u s0:St}{x y b bx lx:S}{l acc:List e8}{bs:Bs}{k V p q:Nat}{r:Rr}
theorem F3.lit{e:e8}(h:F3 s0 s x l)(u:l.length<=100000) :
 ∃x' t d,aE s (aN 1 (aA [iz,iz,iz,iz,iz,iz,iz] [(0,7,AA e)]))=some (Z (.sl s.size 0 1 (.known 1)),d)/\aF 7 56 (Z x) (Z (.sl s.size 0 1 (.known 1))) d=some (Z x',t)/\F3 s0 t x' (l++[e])/\s.size<=t.size ∧
  (∀b,b<s.size->own x≠some b->t.get b=s.get b)/\(own x'=none\/own x'=own x\/∃c,own x'=some c/\s.size<=c):=by
 have L:=Fr.lit 7 h.gr.1 (n:=1) (vs:=cells cA [e]) (by simp[cA]);obtain⟨x',t,g,f,q,k,n⟩:=(h.j6 L.gr).mo (by_:=56) (by omega) L.rd.src (by simp[cA]) (by omega);refine⟨x',t,_,rfl,g,?_,bl L.gr.2.1 q,λb j o=>by rw[k b (by have:=L.gr.2.1;omega) o,L.gr.2.2 b j],?_⟩
 ·unfold F3;rw[dK,aI];exact f
 ·rcases n with n | n | ⟨c,n,r⟩
  ·exact .inl n
  ·exact .inr (.inl n)
  ·exact .inr (.inr ⟨c,n,by have:=L.gr.2.1;omega⟩)
theorem F3.ra(h:F3 s u lx acc)(g:s.size<=p)(d:own lx≠some p)(f:t.wf)(i:t.size=u.size)(b:∀c,c≠p->t.get c=u.get c):F3 s t lx acc:=by
 refine⟨⟨f,by have:=h.gr.2.1;omega,λc a=>by rw[b c (by omega),h.gr.2.2 c a]⟩,h.ow.keep λc a=>b c λe=>d (by rw[a,e]),λc a => ?_⟩;have:=h.new c a;omega
structure GA(s:St)(p:Nat)(bx:S)(bs:Bs)(u:St)(r:Rr)(lx:S)(acc:List e8):Prop where
 rd:u.get p=some (.K true (cR bx r))
 at_:r.at_<=bs.length
 fa:F3 s u lx acc
 ne:own lx≠some p
theorem GA.next(d:Nat)(h:GA s p bx bs u r lx acc)(m:s.size<=p)(k:RB s bx bs)(b:∀c,own bx=some c->c<s.size)(l:bs.length<=100000) :
 ∃a,R (d+2) 153 [Z (.ptr p 0)] u=some (J6 ((nx bs r).1:Nat),a)/\GA s p bx bs a (nx bs r).2 lx acc/\a.size=u.size/\(nx bs r).1<2 ^ 64/\∀c,c≠p->a.get c=u.get c:=by
 obtain⟨n,j,i,z1,e,g,n1,f⟩:=vF d h.fa.gr.wf h.rd (Rd.gr k b h.fa.gr) l h.at_;exact⟨n,j,⟨i,g,h.fa.ra m h.ne e z1 f,h.ne⟩,z1,n1,f⟩
theorem GA.gr(h:GA s p bx bs u r lx acc)(g:Gr u t):GA s p bx bs t r lx acc:=⟨g.get h.rd h.fa.gr.wf,h.at_,Fr.j6 h.fa g,h.ne⟩
theorem GA.set(h:GA s p bx bs u r lx acc){B:er}(e:s.size<=q)(b:q<u.size)(a:q≠p)(f:own lx≠some q):GA s p bx bs (u.set q B) r lx acc:=
 ⟨by rw[St.bO (bu a)];exact h.rd,h.at_,h.fa.ra e f (St.wf_set h.fa.gr.wf b _) (by simp) λc d=>St.bO d,h.ne⟩
theorem zF{a:Int}(n:Nat):W6 (IntKind.u64.wrap (IntKind.u64.wrap a+(n:Int)))=W6 (a+(n:Int)):=by
 unfold W6 IntKind.wrap;simp[IntKind.signed,IntKind.bits]
theorem QX(d:Nat){n:Nat}(h:n<2 ^ 64):R (d+2) 154 [J6 (n:Nat)] s=some (J (fc n),s):=uv (d+1) h
theorem AF(d:Nat){at_:Int}{m H:Nat}(h1:1<=k)(h3:k<=3)(hp:s.size<=p)(h:GA s p bx bs u r lx acc)(SA:RB s bx bs)(C:∀c,own bx=some c->c<s.size)(hl:bs.length<=100000)(SR:r.bad=false)(TN:acc.length+(m+1)=H)(hc:H<=64) :
 ∃u' S4 at' r' a,lC (R (d+2)) 8192 [Z bx,J k,Z (.ptr p 0),Z lx,J at_,J H,J acc.length] u=some (.normal [Z bx,J k,Z (.ptr p 0),Z S4,J at',J H,J ((acc.length+1:Nat):Int)],u') ∧
  GA s p bx bs u' r' S4 (acc++[a])/\Hm bs (wK k) at_ r=(a,at',r'):=by
 have Tz:(acc.length:Int)<(H:Int):=by omega
 have w1:IntKind.i64.wrap ((acc.length:Int)+1)=((acc.length+1:Nat):Int):=by rw[aw _ (by omega) (by omega)];omega
 have q2:aa (Z (.ptr p 2)) u.get=some (B false):=ag h.rd (by simp[cR,SR]);obtain⟨u1,e1,G1,z1,n1,k1⟩:=h.next d hp SA C hl;have ew:=sC (s:=u1) (d+1) h1 h3;obtain⟨u2,e2,G2,z2,n2,k2⟩:=G1.next d hp SA C hl;obtain⟨u3,e3,V,z3,n3,k3⟩:=G2.next d hp SA C hl;have ez:=QX (s:=u3) d n3;obtain⟨r1,Ss⟩:=aZ ((nx bs r).2);obtain⟨r2,Su⟩:=aZ ((nx bs r1).2);obtain⟨E,Sv⟩:=aZ ((nx bs r2).2);rw[<-Ss]at e2 G2 n2 e3 V n3 ez;rw[<-Su]at e3 V n3 ez;rw[<-Sv]at V;obtain⟨AT,Sm⟩:∃A,A=W6 (W6 (at_+1)+W6 ((nx bs r).1:Nat)):=⟨_,rfl⟩;obtain⟨w,Sn⟩:∃A,A=W6 (AT*wK k):=⟨_,rfl⟩;obtain⟨o,Sr⟩:∃A,A=W6 (W6 ((nx bs r1).1:Nat)+1):=⟨_,rfl⟩;obtain⟨g,Sp⟩:∃A,A=fc (nx bs r2).1:=⟨_,rfl⟩;rw[<-Sp]at ez;have TB:ah .add (J at_) (J 1)=some (J (W6 (at_+1))):=by rw[cw]
 have o2:az .i64 (J6 ((nx bs r).1:Nat))=some (J (W6 ((nx bs r).1:Nat))):=by rw[aY]
 have o3:ah .add (J (W6 (at_+1))) (J (W6 ((nx bs r).1:Nat)))=some (J AT):=by rw[cw,Sm]
 have o4:ah .mul (J AT) (J (wK k))=some (J w):=by rw[zf,Sn]
 have o5:az .i64 (J6 ((nx bs r1).1:Nat))=some (J (W6 ((nx bs r1).1:Nat))):=by rw[aY]
 have o6:ah .add (J (W6 ((nx bs r1).1:Nat))) (J 1)=some (J o):=by rw[cw,Sr]
 obtain⟨x0,I⟩:=aZ (⟨w,o,0,g,0,0,0⟩:e8);have Ty:aO (aA [iz,iz,iz,iz,iz,iz,iz] [(0,1,J w),(1,1,J o),(3,1,J g)])=some (AA x0):=by rw[I];rfl
 obtain⟨u4,u5,e4,e5,g5,b5,z5⟩:=IG V.fa.gr.wf x0;have G5:=V.gr g5;have Tp:p<u3.size:=V.fa.gr.wf.lt V.rd;have x:s.size<=u3.size:=V.fa.gr.2.1;have q:u3.size≠p:=by omega
 have y:own lx≠some u3.size:=λe=>by have:=(V.fa.new _ e).2;omega
 obtain⟨Q,hQ⟩:=aZ (u3.size);rw[<-hQ]at e4 e5 b5 z5 Tp x q y;have S3:aa (Z (.ptr Q 3)) u5.get=some (J g):=ag b5 (by rw[I];rfl);obtain⟨u6,h6⟩:∃v,v=u5.set Q (.K true (cA ⟨w,o,g,g,0,0,0⟩)):=⟨_,rfl⟩;have S9:aj 1 (Z (.ptr Q 2)) (J g) u5=some (tt,u6):=by rw[h6];exact(aJ b5 (by simp[cA])).trans (by rw[I];rfl)
 have b6:u6.get Q=some (.K true (cA ⟨w,o,g,g,0,0,0⟩)):=by rw[h6];exact St.dh
 have G6:GA s p bx bs u6 E lx acc:=by rw[h6];exact G5.set x (by omega) q y
 have z6:u6.size=u5.size:=by rw[h6];simp
 obtain⟨u7,h7⟩:∃v,v=u6.set Q (.K true (cA ⟨w,o,g,g,g,0,0⟩)):=⟨_,rfl⟩;have Ta:aj 1 (Z (.ptr Q 4)) (J g) u6=some (tt,u7):=by rw[h7];exact aJ b6 (by simp[cA])
 have b7:u7.get Q=some (.K true (cA ⟨w,o,g,g,g,0,0⟩)):=by rw[h7];exact St.dh
 have G7:GA s p bx bs u7 E lx acc:=by rw[h7];exact G6.set x (by omega) q y
 have z7:u7.size=u6.size:=by rw[h7];simp
 obtain⟨u8,h8⟩:∃v,v=u7.set Q (.K true (cA ⟨w,o,g,g,g,g,0⟩)):=⟨_,rfl⟩;have Tb:aj 1 (Z (.ptr Q 5)) (J g) u7=some (tt,u8):=by rw[h8];exact aJ b7 (by simp[cA])
 have b8:u8.get Q=some (.K true (cA ⟨w,o,g,g,g,g,0⟩)):=by rw[h8];exact St.dh
 have G8:GA s p bx bs u8 E lx acc:=by rw[h8];exact G7.set x (by omega) q y
 have z8:u8.size=u7.size:=by rw[h8];simp
 obtain⟨u9,h9⟩:∃v,v=u8.set Q (.K true (cA ⟨w,o,g,g,g,g,g⟩)):=⟨_,rfl⟩;have Tc:aj 1 (Z (.ptr Q 6)) (J g) u8=some (tt,u9):=by rw[h9];exact aJ b8 (by simp[cA])
 have b9:u9.get Q=some (.K true (cA ⟨w,o,g,g,g,g,g⟩)):=by rw[h9];exact St.dh
 have G9:GA s p bx bs u9 E lx acc:=by rw[h9];exact G8.set x (by omega) q y
 have z9:u9.size=u8.size:=by rw[h9];simp
 have SB:aa (Z (.ptr Q 1)) u9.get=some (J o):=ag b9 rfl
 have Y:∀{v:St} {a:e8} {r':Rr},GA s p bx bs v r' lx acc->v.get Q=some (.K true (cA a))->∃x' t s',ay 7 (Z (.ptr Q 0)) v.get=some (AA a)/\aE v (aN 1 (aA [iz,iz,iz,iz,iz,iz,iz] [(0,7,AA a)]))=some (Z (.sl v.size 0 1 (.known 1)),s')/\aF 7 56 (Z lx) (Z (.sl v.size 0 1 (.known 1))) s'=some (Z x',t)/\GA s p bx bs t r' x' (acc++[a]):=by
  intro v a r' G hv;obtain⟨x',t,s',nw,SH,f,z,kk,nn⟩:=F3.lit (e:=a) G.fa (by omega);have Tq:=G.fa.gr.wf.lt G.rd;refine⟨x',t,s',xF hv,nw,SH,⟨by rw[kk p Tq G.ne];exact G.rd,G.at_,f,λe => ?_⟩⟩;rcases nn with n | n | ⟨c,n,hc⟩
  ·rw[n]at e;cases e
  ·rw[n]at e;exact G.ne e
  ·rw[n]at e;cases e;omega
 have j:Hm bs (wK k) at_ r=if o=1 then(⟨w,o,g,g,g,g,g⟩,AT,E)else
  (⟨w,o,fc (nx bs (nx bs E).2).1,g,W6 (g+(nx bs E).1),W6 (g+(nx bs (nx bs (nx bs E).2).2).1),W6 (g+(nx bs (nx bs (nx bs (nx bs E).2).2).2).1)⟩,AT,(nx bs (nx bs (nx bs (nx bs E).2).2).2).2):=by
  unfold Hm;simp only[<-Ss,<-Su,<-Sv,<-Sm,<-Sr,<-Sp,<-Sn]
 by_cases hn:o=1
 ·obtain⟨x',t,s',ld,nw,SH,G'⟩:=Y G9 b9;rw[af hn]at j;refine⟨t,x',AT,E,_,?_,G',j⟩;rw[hn]at SB;unfold lC;clear Y j Sm Sn Sr Sp I Ss Su Sv hn;generalize R (d+2)=rr at*;simp[Tz,q2,e1,ew,e2,e3,ez,TB,o2,o3,o4,o5,o6,Ty,e4,e5,S3,S9,Ta,Tb,Tc,SB,ld,nw,SH,w1]
 ·have Tw:aa (Z (.ptr Q 3)) u9.get=some (J g):=ag b9 rfl;have Tk:az .u64 (J g)=some (J6 (IntKind.u64.wrap g)):=by rw[aY]
  have D:∀n:Nat,∃W,ah .add (J6 (IntKind.u64.wrap g)) (J6 (n:Nat))=some (J6 W)/\az .i64 (J6 W)=some (J (W6 (g+(n:Nat)))):=λn=>⟨_,by rw[cw],by rw[aY,<-zF]⟩
  obtain⟨N,Tl,SD,TG,TD,Ts⟩:=G9.next d hp SA C hl;obtain⟨r4,SU⟩:=aZ ((nx bs E).2);rw[<-SU]at SD j;obtain⟨F,SP⟩:∃A,A=W6 (g+((nx bs E).1:Nat)):=⟨_,rfl⟩;obtain⟨W4,a4,TA⟩:=D (nx bs E).1;rw[<-SP]at TA j;have SI:N.get Q=some (.K true (cA ⟨w,o,g,g,g,g,g⟩)):=by rw[Ts Q q];exact b9
  have SY:aa (Z (.ptr Q 3)) N.get=some (J g):=ag SI rfl;obtain⟨Sw,Sj⟩:∃v,v=N.set Q (.K true (cA ⟨w,o,g,g,F,g,g⟩)):=⟨_,rfl⟩;have S5:aj 1 (Z (.ptr Q 4)) (J F) N=some (tt,Sw):=by rw[Sj];exact aJ SI (by simp[cA])
  have Th:Sw.get Q=some (.K true (cA ⟨w,o,g,g,F,g,g⟩)):=by rw[Sj];exact St.dh
  have Td:GA s p bx bs Sw r4 lx acc:=by rw[Sj];exact SD.set x (by omega) q y
  have TH:Sw.size=N.size:=by rw[Sj];simp
  obtain⟨O,Tm,SE,TI,Tx,Tt⟩:=Td.next d hp SA C hl;have Sy:=QX (s:=O) d Tx;obtain⟨r5,SV⟩:=aZ ((nx bs r4).2);rw[<-SV]at SE j;obtain⟨X,SQ⟩:∃A,A=fc (nx bs r4).1:=⟨_,rfl⟩;rw[<-SQ]at Sy j;have Ti:O.get Q=some (.K true (cA ⟨w,o,g,g,F,g,g⟩)):=by rw[Tt Q q];exact Th
  obtain⟨S,Sk⟩:∃v,v=O.set Q (.K true (cA ⟨w,o,X,g,F,g,g⟩)):=⟨_,rfl⟩;have S6:aj 1 (Z (.ptr Q 2)) (J X) O=some (tt,S):=by rw[Sk];exact aJ Ti (by simp[cA])
  have SJ:S.get Q=some (.K true (cA ⟨w,o,X,g,F,g,g⟩)):=by rw[Sk];exact St.dh
  have Te:GA s p bx bs S r5 lx acc:=by rw[Sk];exact SE.set x (by omega) q y
  have TJ:S.size=O.size:=by rw[Sk];simp
  have SZ:aa (Z (.ptr Q 3)) S.get=some (J g):=ag SJ rfl;obtain⟨T,Tn,SF,TK,TE,Tu⟩:=Te.next d hp SA C hl;obtain⟨r6,SW⟩:=aZ ((nx bs r5).2);rw[<-SW]at SF j;obtain⟨FI,SN⟩:∃A,A=W6 (g+((nx bs r5).1:Nat)):=⟨_,rfl⟩;obtain⟨TC,a6,c6⟩:=D (nx bs r5).1;rw[<-SN]at c6 j;have SK:T.get Q=some (.K true (cA ⟨w,o,X,g,F,g,g⟩)):=by rw[Tu Q q];exact SJ
  have S0:aa (Z (.ptr Q 3)) T.get=some (J g):=ag SK rfl;obtain⟨U,Sl⟩:∃v,v=T.set Q (.K true (cA ⟨w,o,X,g,F,FI,g⟩)):=⟨_,rfl⟩;have S7:aj 1 (Z (.ptr Q 5)) (J FI) T=some (tt,U):=by rw[Sl];exact aJ SK (by simp[cA])
  have SL:U.get Q=some (.K true (cA ⟨w,o,X,g,F,FI,g⟩)):=by rw[Sl];exact St.dh
  have Tf:GA s p bx bs U r6 lx acc:=by rw[Sl];exact SF.set x (by omega) q y
  have TL:U.size=T.size:=by rw[Sl];simp
  have S1:aa (Z (.ptr Q 3)) U.get=some (J g):=ag SL rfl;obtain⟨Sx,To,SG,TM,TF,Tv⟩:=Tf.next d hp SA C hl;obtain⟨r7,SX⟩:=aZ ((nx bs r6).2);rw[<-SX]at SG j;obtain⟨LA,SO⟩:∃A,A=W6 (g+((nx bs r6).1:Nat)):=⟨_,rfl⟩;obtain⟨W7,a7,c7⟩:=D (nx bs r6).1;rw[<-SO]at c7 j;have SM:Sx.get Q=some (.K true (cA ⟨w,o,X,g,F,FI,g⟩)):=by rw[Tv Q q];exact SL
  have S2:aa (Z (.ptr Q 3)) Sx.get=some (J g):=ag SM rfl;obtain⟨SC,Sz⟩:∃v,v=Sx.set Q (.K true (cA ⟨w,o,X,g,F,FI,LA⟩)):=⟨_,rfl⟩;have S8:aj 1 (Z (.ptr Q 6)) (J LA) Sx=some (tt,SC):=by rw[Sz];exact aJ SM (by simp[cA])
  have Tj:SC.get Q=some (.K true (cA ⟨w,o,X,g,F,FI,LA⟩)):=by rw[Sz];exact St.dh
  have Tg:GA s p bx bs SC r7 lx acc:=by rw[Sz];exact SG.set x (by omega) q y
  obtain⟨x',t,s',ld,nw,SH,G'⟩:=Y Tg Tj;rw[ae hn]at j;refine⟨t,x',AT,r7,_,?_,G',j⟩;unfold lC;clear Y j Sm Sn Sr Sp I Ss Su Sv SU SV SW SX SP SQ SN SO D;generalize R (d+2)=rr at*;simp[Tz,q2,e1,ew,e2,e3,ez,TB,o2,o3,o4,o5,o6,Ty,e4,e5,S3,S9,Ta,Tb,Tc,SB,hn,Tw,Tk,Tl,a4,TA,S5,SY,Tm,Sy,S6,SZ,Tn,a6,c6,S7,S0,S1,To,a7,c7,S8,S2,ld,nw,SH,w1]
end
section
variable {s t u s0:St}{x y b bx lx:S}{l acc:List e8}{bs:Bs}{k V p q:Nat}{r:Rr}
theorem PY(bs:Bs)(w at_:Int)(r:Rr):IA (Hm bs w at_ r).1:=by
 unfold Hm;dsimp only;split
 ·exact⟨ei _,ei _,gD (pn _ _),gD (pn _ _),gD (pn _ _),gD (pn _ _),gD (pn _ _)⟩
 ·exact⟨ei _,ei _,gD (pn _ _),gD (pn _ _),ei _,ei _,ei _⟩
theorem yI(bs:Bs)(w:Int):∀(m:Nat) (acc:List e8) (at_:Int) (r:Rr),(∀a∈acc,IA a)->∀a∈(lR bs w m acc at_ r).1,IA a
 | 0,acc,at_,r,h,a,c=>h a c
 |m+1,acc,at_,r,h,a,c=>by
  rw[lR]at c;split at c
  ·exact h a c
  ·refine yI bs w m _ _ _ (λb hb => ?_) a c;rcases dP.1 hb with hb | hb
   ·exact h b hb
   ·rw[df]at hb;rw[hb];exact PY ..
theorem AV(bs:Bs)(w:Int):∀(m:Nat) (acc:List e8) (at_:Int) (r:Rr),(lR bs w m acc at_ r).1.length<=acc.length+m
 | 0,acc,at_,r=>by simp[lR]
 |m+1,acc,at_,r=>by
  rw[lR];split
  ·simp
  ·have:=AV bs w m (acc++[(Hm bs w at_ r).1]) (Hm bs w at_ r).2.1 (Hm bs w at_ r).2.2;rw[aI,iV]at this;omega
theorem CF(d:Nat){cnt m:Nat}{at_:Int}(I:1<=k)(O:k<=3)(Y:s.size<=p)(h:GA s p bx bs u r lx acc)(Q:RB s bx bs)(C:∀c,own bx=some c->c<s.size)(V:bs.length<=100000)(X:acc.length+m=cnt)(T:cnt<=64) :
 ∃x n,loops (lC (R (d+2)) 8192) 8192 [Z bx,J k,Z (.ptr p 0),Z lx,J at_,J cnt,J acc.length] u=some (.exit 0 [Z bx,J k,Z (.ptr p 0),Z n],x) ∧
  x.get p=some (.K true (cR bx (lR bs (wK k) m acc at_ r).2))/\F3 s x n (lR bs (wK k) m acc at_ r).1:=by
 obtain⟨D,F⟩:=aZ (lR bs (wK k) m acc at_ r)
 obtain⟨j,Sj,lp,n,rfl,z,N⟩:=aL (f:=lC (R (d+2)) 8192)
  (λq v u=>∃(lx:S) (acc:List e8) (at_:Int) (r:Rr),acc.length+q=cnt/\v=[Z bx,J k,Z (.ptr p 0),Z lx,J at_,J cnt,J acc.length]/\GA s p bx bs u r lx acc/\lR bs (wK k) q acc at_ r=D)
  (λj u=>∃lx,j = .exit 0 [Z bx,J k,Z (.ptr p 0),Z lx]/\u.get p=some (.K true (cR bx D.2))/\F3 s u lx D.1) (by
  rintro q v u ⟨lx,acc,at_,r,hq,rfl,o,y⟩;cases q with
  |zero=>
   right;have U:acc.length=cnt:=by omega
   refine⟨.exit 0 [Z bx,J k,Z (.ptr p 0),Z lx],u,?_,(λv h=>by cases h),lx,rfl,by rw[<-y];exact o.rd,by rw[<-y];exact o.fa⟩;unfold lC;rw[U];simp
  |succ q=>
   cases g:r.bad with
   |true=>
    right;have q2:aa (Z (.ptr p 2)) u.get=some (B true):=ag o.rd (by simp[cR,g]);have H:(acc.length:Int)<(cnt:Int):=(by omega);have t:D=(acc,r):=(by rw[<-y,lR,af g]);refine⟨.exit 0 [Z bx,J k,Z (.ptr p 0),Z lx],u,?_,(λv h=>by cases h),lx,rfl,by rw[t];exact o.rd,by rw[t];exact o.fa⟩;unfold lC;simp[H,q2]
   |false=>
    left;obtain⟨x,n,at',r',a,e,G,E⟩:=AF d I O Y o Q C V g hq T (at_:=at_);have w:(acc++[a]).length=acc.length+1:=(by simp);refine⟨_,x,q,e,by omega,n,acc++[a],at',r',by rw[w];omega,by rw[w],G,?_⟩;rw[<-y,lR,ae (by rw[g];simp),E])
  8192 m _ u ⟨lx,acc,at_,r,X,rfl,h,F.symm⟩ (by omega)
 rw[<-F];exact⟨Sj,n,lp,z,N⟩
def xZ(o:Option (List e8))(y:S):T:=match o with
 |some l => .c6 [.s y,.s (iz)]
 |none => .c6 [.s .av,.s (.int .i64 2)]
theorem Gb(d:Nat)(Sn:s.wf)(T:1<=k)(U:k<=3)(X:RB s bx bs)(w:∀c,own bx=some c->c<s.size)(hl:bs.length<=8000):∃y t,R (d+5) 120 [Z bx,J k] s=some (xZ (qE bs (wK k)) y,t)/\Gr s t/\∀l,qE bs (wK k)=some l->F3 s t y l:=by
 obtain⟨s1,x⟩:=aZ (s.push (.K true (cR bx ⟨0,false⟩)));have D:aO (aA [.av,iz,.bool false] [(0,1,Z bx)])=some (.v (.agg (cR bx ⟨0,false⟩))):=rfl;have H:aE s (b6 (.v (.agg (cR bx ⟨0,false⟩))))=some (Z (.ptr s.size 0),s1):=by rw[x];rfl
 have I:Gr s s1:=by rw[x];exact Gr.push Sn _
 have b1:s1.get s.size=some (.K true (cR bx ⟨0,false⟩)):=by rw[x];exact St.ec
 have Y:RB s1 bx bs:=Rd.gr X w I;obtain⟨s2,n,b2,z2,Sj,Sk,l2,k2⟩:=EA (d+1) I.wf b1 Y (by omega) (cc _) (most:=64) (by decide);have g2:Gr s s2:=⟨Sj,by have:=I.2.1;omega,λc F=>by rw[k2 c (by omega),I.2.2 c F]⟩;have x2:F3 s s2 .av []:=⟨g2,Ow.nil 7 s2,λc F=>by cases F⟩;obtain⟨s3,lx,o,b3,f3⟩:=CF (d+2) (at_ := -1) (m:=(eM bs 64 ⟨0,false⟩).1) T U (au _) ⟨b2,Sk,x2,λh=>by cases h⟩ X w (by omega) (by simp) l2;obtain⟨l,O⟩:=aZ ((lR bs (wK k) (eM bs 64 ⟨0,false⟩).1 [] (-1) (eM bs 64 ⟨0,false⟩).2).1);obtain⟨bad,V⟩:∃b,b=(lR bs (wK k) (eM bs 64 ⟨0,false⟩).1 [] (-1) (eM bs 64 ⟨0,false⟩).2).2.bad:=⟨_,rfl⟩;have hv:∀a∈l,IA a:=by rw[O];exact yI bs _ _ _ _ _ (λa ha=>by cases ha)
 have Sm:l.length<=64:=by
  have:=AV bs (wK k) (eM bs 64 ⟨0,false⟩).1 [] (-1) (eM bs 64 ⟨0,false⟩).2;rw[<-O]at this;simp at this;omega
 rw[<-O]at f3;have N:qE bs (wK k)=if(bad || !vG (wK k) l)=true then none else if dJ (wK k) l=bs then some l else none:=by unfold qE;rw[O,V]
 have G:∀c,own lx=some c->c<s3.size:=λc F=>(f3.new c F).2
 rw[A8];unfold f120;have Sl:(([]:List e8).length:Int)=0:=rfl;rw[Sl]at o;have S:((64:Nat):Int)=64:=rfl;rw[S]at n;have e:¬(k:Int)<1:=by omega
 have g:¬(4:Int)<=(k:Int):=by omega
 cases j:vG (wK k) l with
 |false=>
  obtain⟨q,z,g4⟩:=Ix d f3.gr.wf T U f3.rd G j (by omega);have C:aa (Z (.ptr s.size 2)) q.get=some (B bad):=ag (g4.get b3 f3.gr.wf) (by rw[V];rfl);have u:qE bs (wK k)=none:=by rw[N,af (by rw[j];simp)]
  rw[u];refine⟨.av,q,?_,f3.gr.trans g4,λl h=>by cases h⟩;simp only[aH,Nat.reduceAdd]at n o;generalize R (d+4)=rr at*;cases bad with
  |true=>simp[e,g,D,H,n,o,z,ai,C,aD,a8,xZ]
  |false=>simp[e,g,D,H,n,o,z,ai,C,aD,a8,xZ]
 |true=>
  obtain⟨y,q,z,r⟩:=xg d f3.gr.wf T U f3.rd G j hv;have C:aa (Z (.ptr s.size 2)) q.get=some (B bad):=ag (r.gr.get b3 f3.gr.wf) (by rw[V];rfl);have h4:RB q bx bs:=Rd.gr X w (f3.gr.trans r.gr);have E:=qh (d+3) r.rd h4;simp only[aH,Nat.reduceAdd]at n o E;cases bad with
  |true=>
   have u:qE bs (wK k)=none:=by rw[N,af (by simp)]
   rw[u];refine⟨.av,q,?_,f3.gr.trans r.gr,λl h=>by cases h⟩;generalize R (d+4)=rr at*;simp[e,g,D,H,n,o,z,ai,C,aD,a8,xZ]
  |false=>
   by_cases Q:dJ (wK k) l=bs
   ·have u:qE bs (wK k)=some l:=(by rw[N,j];simp[Q]);rw[u]
    refine⟨lx,q,?_,f3.gr.trans r.gr,λl' h=>by
     cases h;exact Fr.j6 f3 r.gr⟩
    rw[aK Q]at E;generalize R (d+4)=rr at*;simp[e,g,D,H,n,o,z,ai,C,E,aD,a8,xZ]
   ·have u:qE bs (wK k)=none:=(by rw[N,j];simp[Q]);rw[u];refine⟨.av,q,?_,f3.gr.trans r.gr,λl h=>by cases h⟩;rw[aR Q]at E;generalize R (d+4)=rr at*;simp[e,g,D,H,n,o,z,ai,C,E,aD,a8,xZ]
end
def cQ(g:Sq)(x z:S):List S:=[.int .i64 g.i,.int .i64 g.t,.int .i64 g.f,.int .i64 g.o,x,z]
abbrev AQ(g:Sq)(x z:S):T := .v (.agg (cQ g x z))
section
variable {s t u s0:St}{x y z b bx lx:S}{bs:Bs}{p:Nat}{g:Sq}
theorem j8{i:Nat}{w:Bool}{m:Mem}(h:m i=some (.K w (cQ g x z))):ay 6 (Z (.ptr i 0)) m=some (AQ g x z):=by
 simp[ay,h,cQ]
theorem mS{i:Nat}{vs:List S}(h:s.get i=some (.K true vs))(b:vs.length=6):aj 6 (Z (.ptr i 0)) (AQ g x z) s=some (tt,s.set i (.K true (cQ g x z))):=by
 have a:(V.agg (cQ g x z)).cells.length=6/\0+6<=vs.length:=⟨rfl,by omega⟩;simp only[aj,h,af a];rw[show(V.agg (cQ g x z)).cells=cQ g x z from rfl,cK (by rw[b];rfl)]
theorem GO(d:Nat)(g:Sq):R (d+1) 199 [J g.i,J g.t,J g.f,J g.o] s=some (B (xw g),s):=by
 rw[J1];unfold f199 xw;by_cases a:1<=g.i
 ·by_cases b:g.i<=1073741824
  ·by_cases c:0<=g.t
   ·by_cases e:g.t<4
    ·by_cases h:0<=g.f
     ·by_cases j:g.f<g.o
      ·by_cases k:g.o<=1099511627776
       ·simp[a,b,c,e,h,j,k]
       ·simp[a,b,c,e,h,j,k]
      ·simp[a,b,c,e,h,j,bD]
     ·simp[a,b,c,e,h,bD]
    ·simp[a,b,c,e,bD]
   ·simp[a,b,c,bD]
  ·simp[a,b,bD]
 ·simp[a,bD]
theorem BG(d:Nat)(SE:s.wf)(hx:nJ s x g.l)(Sv:∀c,own x=some c->c<s.size)(hz:RA s z g.a)(Sw:∀c,own z=some c->c<s.size)(hl:g.l.length<=8000)(SD:g.a.length<=8000) :
 ∃t,R (d+4) 158 [AQ g x z] s=some (B (gL g),t)/\Gr s t:=by
 obtain⟨s1,Sn⟩:=aZ (s.push (.K true (cQ g x z)));have H:aE s (b6 (AQ g x z))=some (Z (.ptr s.size 0),s1):=by rw[Sn];rfl
 have r:Gr s s1:=by rw[Sn];exact Gr.push SE _
 have b1:s1.get s.size=some (.K true (cQ g x z)):=by rw[Sn];exact St.ec
 have I:aa (Z (.ptr s.size 0)) s1.get=some (J g.i):=ag b1 rfl;have y:aa (Z (.ptr s.size 1)) s1.get=some (J g.t):=ag b1 rfl;have N:aa (Z (.ptr s.size 2)) s1.get=some (J g.f):=ag b1 rfl;have O:aa (Z (.ptr s.size 3)) s1.get=some (J g.o):=ag b1 rfl;have Q:aa (Z (.ptr s.size 4)) s1.get=some (Z x):=ag b1 rfl;have S:aa (Z (.ptr s.size 5)) s1.get=some (Z z):=ag b1 rfl;have q:=GO (s:=s1) (d+2) g;have Sp:=hx.gr Sv r;have Sr:=hz.gr Sw r;have lx:=Sp.lens;have G:=Sr.lens;have Sk:∀c,own x=some c->c<s1.size:=λc hc=>bh (Sv c hc) r.2.1
 have Sl:∀c,own z=some c->c<s1.size:=λc hc=>bh (Sw c hc) r.2.1
 rw[JE];unfold f158 gL;cases hh:xw g with
 |false=>
  rw[hh]at q;refine⟨s1,?_,r⟩;simp only[aH,Nat.reduceAdd]at q;generalize R (d+3)=rr,s.size=ss at*;simp[H,I,y,N,O,q]
 |true=>
  rw[hh]at q;have hd:=fL (show decide (1<=g.i/\g.i<=1073741824/\0<=g.t/\g.t<4/\0<=g.f/\g.f<g.o/\g.o<=1099511627776)=true from hh);obtain⟨_,_,SG,SH,SC,SF,o2⟩:=hd;by_cases ht:g.t=0
  ·rw[af ht,dX];rw[ht]at q y;by_cases Y:g.a=[]
   rotate_left
   ·have u:¬(g.a.length:Int)=0:=λe=>Y (cJ (by omega))
    rw[aR Y];refine⟨s1,?_,r⟩;simp only[aH,Nat.reduceAdd]at q;generalize R (d+3)=rr,s.size=ss,(g.a.length:Int)=AL,(g.l.length:Int)=LL at*;simp[H,I,y,N,O,q,Q,S,lx,G,u,bD]
   have u:(g.a.length:Int)=0:=by rw[Y];rfl
   rw[aK Y,dX];rw[u]at G;by_cases h1:1<=g.l.length
   rotate_left
   ·have Sm:g.l=[]:=cJ (by omega);have he:qo g=false:=(by unfold qo;rw[Sm];rfl);have C:¬(1:Int)<=(g.l.length:Int):=(by omega);rw[he,oy];refine⟨s1,?_,r⟩;simp only[aH,Nat.reduceAdd]at q;generalize R (d+3)=rr,s.size=ss,(g.l.length:Int)=LL at*;simp[H,I,y,N,O,q,Q,S,lx,G,C,bD]
   have C:(1:Int)<=(g.l.length:Int):=by omega
   by_cases U:g.l.length<=64
   rotate_left
   ·have SA:Nat.ble g.l.length 64=false:=gE.2 λh=>U (cm h)
    have hk:ug g.l=false:=(by unfold ug;rw[SA,oy]);have T:¬(g.l.length:Int)<=64:=(by omega);rw[hk,gh];refine⟨s1,?_,r⟩;simp only[aH,Nat.reduceAdd]at q;generalize R (d+3)=rr,s.size=ss,(g.l.length:Int)=LL at*;simp[H,I,y,N,O,q,Q,S,lx,G,C,T,bD]
   have T:(g.l.length:Int)<=64:=by omega
   have Sj:ug g.l=cx (-1) g.l:=by unfold ug;rw[dw U,np]
   rw[Sj];obtain⟨X,D,g3⟩:=pY (d+2) r.wf Sp Sk (by omega);have b3:=g3.get b1 r.wf;have p2:aa (Z (.ptr s.size 2)) X.get=some (J g.f):=ag b3 rfl;have p3:aa (Z (.ptr s.size 3)) X.get=some (J g.o):=ag b3 rfl;have p4:aa (Z (.ptr s.size 4)) X.get=some (Z x):=ag b3 rfl;have Sx:=Sp.gr Sk g3;obtain⟨a,V⟩:∃a,g.l[0]? = some a:=⟨_,aU (by omega)⟩;obtain⟨w,hw⟩:∃w,g.l[g.l.length-1]? = some w:=⟨_,aU (by omega)⟩;obtain⟨ca,pa,ia,_,Sz,_⟩:=nJ.CK Sx (n:=0) (j:=0) rfl V;obtain⟨cz,pz,iz,_,lw,_⟩:=nJ.CK Sx (n:=(g.l.length:Int)-1) (j:=g.l.length-1) (by omega) hw;have w1:IntKind.i64.wrap ((g.l.length:Int)-1)=(g.l.length:Int)-1:=aw _ (by omega) (by omega)
   have he:qo g=(decide (g.f<=a.t)&&decide (w.t<g.o)):=by
    unfold qo;rw[uz,V,mZ,hw]
   rw[he];refine⟨X,?_,r.trans g3⟩;simp only[aH,Nat.reduceAdd]at q D;generalize R (d+3)=rr,s.size=ss,(g.l.length:Int)=LL at*;cases hr:cx (-1) g.l with
   |false=>
    rw[hr]at D;simp[H,I,y,N,O,q,Q,S,lx,G,C,T,D,bD]
   |true=>
    rw[hr]at D;by_cases k1:g.f<=a.t
    ·simp[H,I,y,N,O,q,Q,S,lx,G,C,T,D,p4,ia,Sz,p2,k1,w1,iz,lw,p3,bD]
    ·simp[H,I,y,N,O,q,Q,S,lx,G,C,T,D,p4,ia,Sz,p2,k1,bD]
  ·rw[ae ht,dX];obtain⟨k,hk⟩:∃k:Nat,g.t=(k:Int):=⟨g.t.toNat,by omega⟩;have E:g.t.toNat=k:=by omega
   rw[E];rw[hk]at q y ht;have Ss:1<=k:=by omega
   have Su:k<=3:=by omega
   have F:¬(k:Int)=0:=ht;by_cases Y:g.l=[]
   rotate_left
   ·have u:¬(g.l.length:Int)=0:=λe=>Y (cJ (by omega))
    rw[aR Y];refine⟨s1,?_,r⟩;simp only[aH,Nat.reduceAdd]at q;clear hk E;generalize R (d+3)=rr,s.size=ss,(k:Int)=KK,(g.a.length:Int)=AL,(g.l.length:Int)=LL at*;simp[H,I,y,N,O,q,F,Q,S,lx,G,u,wq,bD]
   have u:(g.l.length:Int)=0:=by rw[Y];rfl
   rw[aK Y,dX];rw[u]at lx;by_cases h1:1<=g.a.length
   rotate_left
   ·have Sm:g.a=[]:=cJ (by omega);have he:qn g=false:=(by unfold qn;rw[Sm];rfl);have C:¬(1:Int)<=(g.a.length:Int):=(by omega);rw[he,oy];refine⟨s1,?_,r⟩;simp only[aH,Nat.reduceAdd]at q;clear hk E;generalize R (d+3)=rr,s.size=ss,(k:Int)=KK,(g.a.length:Int)=LL at*;simp[H,I,y,N,O,q,F,Q,S,lx,G,C,wq,bD]
   have C:(1:Int)<=(g.a.length:Int):=by omega
   by_cases U:g.a.length<=64
   rotate_left
   ·have SA:Nat.ble g.a.length 64=false:=gE.2 λh=>U (cm h)
    have SB:vG (wK k) g.a=false:=(by unfold vG;rw[SA,oy]);have T:¬(g.a.length:Int)<=64:=(by omega);rw[SB,gh];refine⟨s1,?_,r⟩;simp only[aH,Nat.reduceAdd]at q;clear hk E;generalize R (d+3)=rr,s.size=ss,(k:Int)=KK,(g.a.length:Int)=LL at*;simp[H,I,y,N,O,q,F,Q,S,lx,G,C,T,wq,bD]
   have T:(g.a.length:Int)<=64:=by omega
   have Sj:vG (wK k) g.a=bW (wK k) (-1) g.a:=by unfold vG;rw[dw U,np]
   rw[Sj];obtain⟨X,D,g3⟩:=nO d r.wf Ss Su Sr Sl (by omega);have b3:=g3.get b1 r.wf;have p1:aa (Z (.ptr s.size 1)) X.get=some (J k):=by rw[<-hk];exact ag b3 rfl
   have p2:aa (Z (.ptr s.size 2)) X.get=some (J g.f):=ag b3 rfl;have p3:aa (Z (.ptr s.size 3)) X.get=some (J g.o):=ag b3 rfl;have p5:aa (Z (.ptr s.size 5)) X.get=some (Z z):=ag b3 rfl;have Sy:=Sr.gr Sl g3;have e4:=xq (s:=X) (d+1) Ss Su SC (by omega);obtain⟨a,V⟩:∃a,g.a[0]? = some a:=⟨_,aU (by omega)⟩;obtain⟨w,hw⟩:∃w,g.a[g.a.length-1]? = some w:=⟨_,aU (by omega)⟩;obtain⟨ca,pa,ia,_,Sz⟩:=RA.Gf Sy (n:=0) (j:=0) rfl V;obtain⟨cz,pz,iz,_,lw⟩:=RA.Gf Sy (n:=(g.a.length:Int)-1) (j:=g.a.length-1) (by omega) hw;have w1:IntKind.i64.wrap ((g.a.length:Int)-1)=(g.a.length:Int)-1:=aw _ (by omega) (by omega)
   have he:qn g=(decide (g.f-g.f%wK k<=a.f)&&decide (w.f<g.o)):=by
    unfold qn;rw[uz,V,mZ,hw,E]
   rw[he];refine⟨X,?_,r.trans g3⟩;simp only[aH,Nat.reduceAdd]at q D e4;clear hk E he Sj;generalize R (d+3)=rr,s.size=ss,(k:Int)=KK,g.f-g.f%wK k=FL,(g.a.length:Int)=LL at*;cases hr:bW (wK k) (-1) g.a with
   |false=>
    rw[hr]at D;simp[H,I,y,N,O,q,F,Q,S,lx,G,C,T,D,wq,bD]
   |true=>
    rw[hr]at D;by_cases k1:FL<=a.f
    ·simp[H,I,y,N,O,q,F,Q,S,lx,G,C,T,D,p5,ia,Sz,p2,p1,e4,k1,w1,iz,lw,p3,wq,bD]
    ·simp[H,I,y,N,O,q,F,Q,S,lx,G,C,T,D,p5,ia,Sz,p2,p1,e4,k1,wq,bD]
end
end Go.Proofs.YtbohejffelipoaaGreatDoor
