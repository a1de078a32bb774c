/-
  A library of our own, several texts in one: an abstract store for the model, and runs over it. Nothing here speaks of any program. No conditions.
-/
import Derived.Test.YtbohejffelipoaaGreatDoorAbsC
import Derived.Carry
import Derived.Test.YtbohejffelipoaaGreatDoorAbsD
import Derived.Lib.LaidTab
import Derived.Below
import Derived.Lib.Bytealg
import Derived.Lib.Join
import Derived.Lib.ItoaNum
import Derived.Sort.Grow
import Derived.Deep.Draws
set_option linter.unusedVariables false
set_option linter.unusedSimpArgs false
set_option maxHeartbeats 4000000
namespace Go.Abs
open Go Go.ChangeShapes
inductive AK where
 |bool
 |int (k:IntKind)
 |str
 deriving DecidableEq
def KS:AK->S->Prop
 | .bool,.bool _=>True
 | .int k,.int q n=>q=k/\(Lit.int k n).wf=true
 | .str,.str l=>l.length<=maxLen
 |_,_=>False
def ER(P:Program)(g:TypeId->Option (List AK)):List Field->Nat->Option (List AK)
 | [],_=>some []
 |f::fs,c=>if f.offset=c then
   match g f.type with
   |none=>none
   |some ks=>if ks.length=P.cellsOf f.type then(ER P g fs (c+ks.length)).map (ks++·)else none
  else none
def vm(P:Program):Nat->TypeId->Option (List AK)
 | 0,_=>none
 |n+1,t=>match P.underlying t with
  |some .bool=>some [.bool]
  |some (.int k)=>some [.int k]
  |some .string=>some [.str]
  |some (.struct fs)=>match ER P (vm P n) fs.toList 0 with
   |none=>none
   |some ks=>if ks.length=P.cellsOf t then some ks else none
  |some (.array m e)=>match vm P n e with
   |none=>none
   |some ks=>if ks.length=P.cellsOf e/\P.cellsOf t=m*ks.length then some (List.replicate m ks).flatten else none
  |_=>none
section
variable {H:Type}{enc:TypeId×Value->H}{P:Program}{w:World}{base:Nat}{spare:Nat->Bool}{held:Bool}
theorem Bl{cs:List Value}{g:TypeId->Option (List AK)}
 (C:∀(c:Nat) (t:TypeId) (ks:List AK) (m:Nat) (x:DataW H×List MemPlace),DataW.trod enc P w base spare held m t ((cs.drop c).take (P.cellsOf t))=some x->g t=some ks->∃xs:List S,bC KS ks xs/\∀ι,bC (bG ι) xs ((cs.drop c).take (P.cellsOf t))) :
 ∀(fs:List Field) (c:Nat) (ks:List AK),ER P g fs c=some ks->(∀f∈fs,∃m x,DataW.trod enc P w base spare held m f.type ((cs.drop f.offset).take (P.cellsOf f.type))=some x) →
  ∃xs:List S,bC KS ks xs/\∀ι,bC (bG ι) xs ((cs.drop c).take ks.length):=by
 intro fs;induction fs with
 |nil=>
  intro c ks h _;cases h;exact⟨[],.nil,λι=>by simpa using bC.nil⟩
 |cons f fs F=>
  intro c ks h o;unfold ER at h;split at h
  ·rename_i E;subst E;split at h
   ·cases h
   ·rename_i q j;split at h
    ·rename_i D;rw[o6]at h;obtain⟨G,k,rfl⟩:=h;obtain⟨m,x,n⟩:=o f eF;obtain⟨I,r,y⟩:=C f.offset f.type q m x n j;obtain⟨J,u,z⟩:=F (f.offset+q.length) G k λB e=>o B (dC _ e)
     refine⟨I++J,cd r u,λι => ?_⟩;rw[aI,zO,lY];have d:=y ι;rw[<-D]at d;exact cd d (z ι)
    ·cases h
  ·cases h
theorem GF{cs:List Value}{ks:List AK}(c:Nat)(t:ks.length=c) :
 ∀(m d:Nat),(∀i,i<m->∃xs:List S,bC KS ks xs/\∀ι,bC (bG ι) xs ((cs.drop (d+i*c)).take c)) →
  ∃xs:List S,bC KS (List.replicate m ks).flatten xs/\∀ι,bC (bG ι) xs ((cs.drop d).take (m*c)):=by
 intro m;induction m with
 |zero=>intro d _;exact⟨[],.nil,λι=>by simpa using bC.nil⟩
 |succ m o=>
  intro d h;obtain⟨q,g,k⟩:=h 0 (by omega)
  obtain⟨r,j,n⟩:=o (d+c) λi hi=>by
   have:=h (i+1) (by omega)
   rwa [show d+(i+1)*c=d+c+i*c by rw[bJ];omega]at this
  refine⟨q++r,?_,λι => ?_⟩
  ·rw[uE,p8];exact cd g j
  ·rw[show(m+1)*c=c+m*c by rw[bJ];omega,zO,lY];have e:=k ι;rw[o4,iX]at e;exact cd e (n ι)
theorem GG:∀(n m:Nat) (t:TypeId) (cs:List Value) (x:DataW H×List MemPlace) (ks:List AK),DataW.trod enc P w base spare held m t cs=some x->vm P n t=some ks →
 ∃xs:List S,bC KS ks xs/\∀ι,bC (bG ι) xs cs:=by
 intro n;induction n with
 |zero=>intro m t cs x ks _ h;cases h
 |succ n G=>
  intro m t cs x ks B h;unfold vm at h;split at h
  ·rename_i c;cases h;obtain⟨b,rfl,_⟩:=DataW.trod_bool c B;exact⟨[.bool b],.cons trivial .nil,λι => .cons rfl .nil⟩
  ·rename_i k c;cases h;obtain⟨b,rfl,_,D⟩:=DataW.trod_int c B;exact⟨[.int k b],.cons ⟨rfl,D⟩ .nil,λι => .cons rfl .nil⟩
  ·rename_i c;cases h;obtain⟨s,rfl,_,D⟩:=DataW.trod_string c B;exact⟨[.str s.data.toList],.cons (by simpa[KS]using D) .nil,λι => .cons ⟨s,rfl,rfl⟩ .nil⟩
  ·rename_i fs c;split at h
   ·cases h
   ·rename_i E o;split at h
    ·rename_i z;cases h;obtain⟨xs,F,_,_,j,r,u⟩:=DataW.trod_struct c B
     obtain⟨ys,a,b⟩:=Bl (cs:=cs) (g:=vm P n) (λN t ks m x I d=>G m t _ x ks I d) fs.toList 0 ks o λf J=>by
      obtain⟨i,hi⟩:=iT J;have y:fs[i]? = some f:=by simpa using hi
      have d:=u i f y;have C:i<xs.length:=(by rw[r];exact(iZ.1 y).1);rw[aU C]at d;exact⟨F,_,d⟩
     refine⟨ys,a,λι => ?_⟩;have:=b ι
     rwa [ek,z,<-j,dE]at this
    ·cases h
  ·rename_i q e c;split at h
   ·cases h
   ·rename_i E o;split at h
    ·rename_i z;cases h;obtain⟨xs,F,_,_,j,r,u⟩:=DataW.trod_array c B
     obtain⟨ys,a,b⟩:=GF (cs:=cs) (ks:=E) (P.cellsOf e) z.1 q 0 λi hi=>by
      have d:=u i hi;have C:i<xs.length:=(by rw[r];exact hi);rw[aU C]at d;obtain⟨O,a,b⟩:=G F e _ _ E d o;exact⟨O,a,λι=>by rw[a7];exact b ι⟩
     refine⟨ys,a,λι => ?_⟩;have:=b ι
     rwa [ek,<-z.1,<-z.2,<-j,dE]at this
    ·cases h
  ·cases h
def c7(vs:List S):er:=match vs with
 | [] => .dead
 |x::l => .K false (x::l)
theorem nw(vs:List S):¬live (some (c7 vs)):=by
 cases vs<;>exact λh=>h
theorem MM{b:Nat}{c:Array Value}{el:TypeId}{a:Nat×Nat}(d:w.heap[b]? = some (.cells c el a))(i j:Nat){o:Nat}:w.cell? (((⟨b,o,none⟩:Addr).add i).add j)=c[o+i+j]? := by
 have h:((⟨b,o,none⟩:Addr).add i).add j=⟨b,o+i+j,none⟩:=by
  unfold Addr.add;split<;>split<;>simp_all
 rw[h];unfold World.cell?;simp[d]
theorem Ds{r:Reach}{b0:Nat}{t e:TypeId}{ks:List AK}{n:Nat}{v:Value}{d:DataW H}{ps:List MemPlace}(ht:P.underlying t=some (.slice e))(hk:vm P n e=some ks)(hc:P.cellsOf e=ks.length)
 (C:Value.okWide P w r b0 t v) (hd:DataW.Trod enc P w base spare held t v d ps) :
 v = .slice none 0 0\/∃(b o cap:Nat) (rows:List (List S)),v = .slice (some ⟨b,o,none⟩) rows.length cap/\(rows.length<=cap/\rows.length<9223372036854775808)/\(∀x∈rows,bC KS ks x)/\∃L:Loc,L.b=b/\L.base=o/\∀ι,fg ι L w (c7 rows.flatten):=by
 have hv:Cell.okWide P w r b0 t v:=by
  unfold Value.okWide at C;rw[ht]at C;exact C
 obtain⟨fuel,Sx⟩:=hd
 have k:Cell.ok P w r b0 t v:=by
  unfold Cell.okWide at hv;rw[ht]at hv;exact hv
 unfold Cell.ok at k;rw[ht]at k
 have G:v = .slice none 0 0\/∃a len cap,v = .slice (some a) len cap/\(cap:Int)<=9223372036854775807/\w.has P r b0 a e cap:=by
  split at k
  all_goals first | (rename_i he;cases he;done) | skip
  all_goals first | exact .inl rfl | exact k.elim | (rename_i he;cases he;exact .inr ⟨_,_,_,rfl,k.2.1,k.2.2⟩)
 rcases G with h0 | ⟨a,len,cap,rfl,Sr,Y⟩
 ·exact .inl h0
 right;obtain⟨_,Q,row,cells,O,_⟩:=Y;obtain⟨b,o,sp⟩:=a;cases Q;rcases DataW.trod_slice ht Sx with ⟨h0,_⟩ | ⟨a',Su,Sn,elems,Sv,m,_,E,_,_,hl,_,Ss,Sm,_,_⟩
 ·simp[Value.cells]at h0
 ·simp only[Value.cells,Mr,Value.slice.injEq,jD,and_true]at E;obtain⟨rfl,rfl,rfl⟩:=E;unfold World.shape? at O;split at O
  ·rename_i c el fz Sp
   have Z:∀i,i<len->∃xs:List S,bC KS ks xs/\∀j,j<ks.length->∃x v,xs[j]? = some x/\c[o+(i*ks.length+j)]? = some v/\∀ι,bG ι x v:=by
    intro i hi;have B:=Sm i hi;rw[aU (by omega),Option.bind_eq_some_iff]at B;obtain⟨cs,E,B⟩:=B;obtain⟨xs,Sk,T⟩:=GG n m e cs _ ks B hk;refine⟨xs,Sk,λj g => ?_⟩;have V:=World.cells?_some E;obtain⟨_,Sw,Sl⟩:=V;have u:j<xs.length:=(by rw[<-aP Sk];exact g);obtain⟨y,hy,_⟩:=cr (T λ_=>none) j xs[j] (aU u);refine⟨xs[j],y,aU u,?_,λι => ?_⟩
    ·have D:=Sl j (by rw[hc];exact g);rw[hy,hc]at D;rw[<-D,<-aH];exact(MM Sp _ _).symm
    ·obtain⟨y',Sj,hr⟩:=cr (T ι) j xs[j] (aU u);rw[hy]at Sj;cases Sj;exact hr
   have N:∀q,q<=len->∃rows:List (List S),rows.length=q/\(∀x∈rows,bC KS ks x)/\∀j,j<q*ks.length->∃x v,rows.flatten[j]? = some x/\c[o+j]? = some v/\∀ι,bG ι x v:=by
    intro q;induction q with
    |zero=>intro _;exact⟨[],rfl,λx h=>(by cases h),λj g=>by simp at g⟩
    |succ q R=>
     intro hq;obtain⟨rows,B,I,D⟩:=R (by omega);obtain⟨xs,Sk,T⟩:=Z q (by omega)
     have F:rows.flatten.length=q*ks.length:=by
      clear D R hq T;subst B;induction rows with
      |nil=>simp
      |cons r l R=>
       rw[p8,aI,R (λx u=>I x (dC _ u)),<-aP (I r eF),bB,bJ];omega
     refine⟨rows++[xs],by simp[B],λx u => ?_,λj g => ?_⟩
     ·rw[dP,df]at u;rcases u with u | rfl
      ·exact I x u
      ·exact Sk
     ·rw[Mw,List.flatten_singleton];rcases b9 j (q*ks.length)with hj' | hj'
      ·rw[kx (by omega)];exact D j hj'
      ·rw[ky (by omega),F];obtain⟨x,v,e1,U,e3⟩:=T (j-q*ks.length) (by rw[bJ]at g;omega);refine⟨x,v,e1,?_,e3⟩
       rwa [show q*ks.length+(j-q*ks.length)=j by omega]at U
   obtain⟨rows,B,I,D⟩:=N len (au _);refine⟨b,o,cap,rows,by rw[B],⟨by omega,by omega⟩,I,⟨b,o,c.size,0⟩,rfl,rfl,λι => ?_⟩
   have F:∀j x,rows.flatten[j]? = some x->j<len*ks.length:=by
    intro j x g;have hj':=(bq.1 g).1
    have:rows.flatten.length=rows.length*ks.length:=by
     clear D g hj' B;induction rows with
     |nil=>simp
     |cons r l R=>
      rw[p8,aI,R (λx u=>I x (dC _ u)),<-aP (I r eF),bB,bJ];omega
    rw[this,B]at hj';exact hj'
   cases X:rows.flatten with
   |nil=>trivial
   |cons y ys=>
    refine⟨c,el,fz,Sp,rfl,?_,?_,λh=>by cases h⟩
    ·have J:rows.flatten[ys.length]? ≠ none:=by
      rw[X];simp
     cases hz:rows.flatten[ys.length]? with
     |none=>exact absurd hz J
     |some z=>
      obtain⟨x,v,_,U,_⟩:=D ys.length (F _ _ hz);have:=(iZ.1 U).1;simp only[bB];omega
    ·intro j x g;rw[<-X]at g;obtain⟨x',v,e1,U,e3⟩:=D j (F _ _ g);rw[g]at e1;cases e1;exact⟨v,U,e3 ι⟩
  ·cases O
def yo(W:World)(σ:St)(vs:List Value)(a:List T):Prop:=
 ∃ι:cV,Rel ι σ.get W/\σ.wf/\(∀i,σ.size<=i->ι i=none)/\(∀i,¬live (σ.get i))/\bC (aT ι) a vs
theorem yo.flat{W:World}{σ:St}{vs:List Value}{a:List T}(h:yo W σ vs a){v:Value}{x:S}(g:∀ι,bG ι x v):yo W σ (v::vs) (.v (.s x)::a):=by
 obtain⟨ι,b,c,d,e,f⟩:=h;exact⟨ι,b,c,d,e,.cons (g ι) f⟩
theorem yo.slice{W:World}{σ:St}{vs:List Value}{r:List T}(h:yo W σ vs r){b o len cap:Nat}{xs:List S}(y:len<=cap)(L:Loc)(x:L.b=b)(z:L.base=o)(A:∀ι,fg ι L W (c7 xs)) :
 yo W (σ.push (c7 xs)) (.slice (some ⟨b,o,none⟩) len cap::vs) (.v (.s (.sl σ.size 0 len (.known cap)))::r):=by
 obtain⟨ι,l,t,m,p,u⟩:=h
 have f:ι.le (λi=>if i=σ.size then some L else ι i):=by
  intro i M hi
  have:i≠σ.size:=by
   intro e;rw[m i (by omega)]at hi;cases hi
  simp[this,hi]
 refine⟨λi=>if i=σ.size then some L else ι i,⟨?_,?_,?_⟩,St.bo t _,?_,?_,.cons ⟨L,by simp,by rw[x,z];simp,y⟩ (iL (λa c k=>k.mono f) u)⟩
 ·intro i M c hi g;by_cases e:i=σ.size
  ·subst e;simp only[bY]at hi;cases hi;rw[St.bf]at g;cases g;exact A _
  ·simp only[ae e]at hi;rw[St.j5 e]at g;exact(l.blk i M c hi g).mono f
 ·intro i j B C hi D d;exfalso;by_cases e:i=σ.size
  ·subst e;rw[St.bf]at d;exact nw _ d
  ·rw[St.j5 e]at d;exact p i d
 ·intro i n vs q;by_cases e:i=σ.size
  ·subst e;exact⟨L,by simp⟩
  ·rw[St.j5 e]at q;obtain⟨M,w⟩:=l.eb i n vs q;exact⟨M,by simp[e,w]⟩
 ·intro i hi;rw[St.size_push]at hi;simp only[ae (show i≠σ.size by omega)];exact m i (by omega)
 ·intro i d;by_cases e:i=σ.size
  ·subst e;rw[St.bf]at d;exact nw _ d
  ·rw[St.j5 e]at d;exact p i d
theorem Gm{aC:bc}(l:aS P aC){f:FuncId}{a:List T}{vs:List Value}{σ m:St}{W:World}{b:Bool}(hi:yo W σ vs a)
 (h:aC f a σ=some (B b,m)):Calls P f vs.toArray W λe u=>e = .returned (.bool b)/\Kept W u:=by
 obtain⟨ι,c,d,g,j,k⟩:=hi;exact yE l h d c (λi hi _=>g i hi) k λi L _ _=>j i
theorem GV{W u:World}(h:Kept W u){p:MemPlace}(c:p.block<W.heap.size):W.sameAt u p:=by
 cases p with
 |cell b o=>exact World.cell?_of_block (w:=W) (h.2.2.2 b c)
 |map b=>exact h.2.2.2 b c
theorem wX{W u:World}(C:laidOutB P=true)(B:Kept W u) :
 ∀{g:List TypeId} {vs:List Value} {c:List (DataW H)} {p:List MemPlace} {o:Nat->Bool},DataW.TrodAll enc P W 0 (λ_=>true) true g vs c p->(g.all λt=>P.readableRec t&&decide (t<P.types.size))=true →
  (∀x∈p,x.block<W.heap.size)->(∀x∈p,o x.block=true)->DataW.TrodAll enc P u 0 o true g vs c p:=by
 intro g;induction g with
 |nil=>
  intro vs c p o h _ _ _;cases vs<;>cases c<;>first | exact h | exact h.elim
 |cons t g D=>
  intro vs c p o h n j k;cases vs with
  |nil=>exact h.elim
  |cons v vs=>cases c with
   |nil=>exact h.elim
   |cons d c=>
    obtain⟨q,r,y,z,rfl⟩:=h;simp only[nq,aM,bK]at n;refine⟨q,r,WideElems.Trod_stays C n.1.1 n.1.2 y (λx e => ?_) λx e=>k x (zH _ e),D z n.2 (λx e=>j x (zJ _ e)) λx e=>k x (zJ _ e),rfl⟩;have w:=j x (zH _ e);exact GV B w
end
end Go.Abs
namespace Go.Abs.F
open Go Go.Abs
theorem aL{f:List T->St->Option (JO×St)}(In:Nat->List T->St->Prop)(Q:JO->St->Prop)
 (step:∀k v s,In k v s->(∃e c k',f v s=some (.normal e,c)/\k=k'+1/\In k' e c)\/∃j c,f v s=some (j,c)/\(∀v,j ≠ .normal v)/\Q j c) :
 ∀N k v s,In k v s->k<N->∃j τ,loops f N v s=some (j,τ)/\Q j τ:=by
 intro N;induction N with
 |zero=>intro k v s _ h;omega
 |succ N t=>
  intro k v s hi u;rcases step k v s hi with ⟨e,c,k',d,q,g⟩ | ⟨j,c,d,o,n⟩
  ·obtain⟨j,τ,h,n⟩:=t k' e c g (by omega);exact⟨j,τ,by simp only[loops,d];exact h,n⟩
  ·refine⟨j,c,?_,n⟩;cases j with
   |normal v=>exact absurd rfl (o v)
   |exit i v=>simp only[loops,d]
   |ret r=>simp only[loops,d]
@[simp] theorem Qm (b o len:Nat) (c:Cap):aG (Z (.sl b o len c))=some (I .i64 len):=nz rfl
@[simp] theorem O8:aG (Z .av)=some (I .i64 0):=nz rfl
@[simp] theorem Pu (i e:Nat):aG (Z (.emp i e))=some (I .i64 0):=nz rfl
theorem eu{e b o len:Nat}{c:Cap}{k:IntKind}{n:Int}{j:Nat}(a:n=j)(h:j<len):ar e (Z (.sl b o len c)) (I k n)=some (Z (.ptr b (o+j*e))):=by
 subst a;simp[ar,nH,h]
end Go.Abs.F
namespace Go.Abs
open Go Go.Abs.F
def MD(a:T)(c:Nat)(rows:List (List S)):Prop:=(a=Z .av/\rows=[])\/∃cap,rows.length<=cap/\a=Z (.sl c 0 rows.length (.known cap))
theorem yo.dead{W:World}{σ:St}{vs:List Value}{ts:List T}(h:yo W σ vs ts):yo W (σ.push .dead) vs ts:=by
 obtain⟨ι,d,l,f,g,m⟩:=h
 have ne:∀i L,ι i=some L->i≠σ.size:=by
  intro i L hi e;rw[f i (by omega)]at hi;cases hi
 refine⟨ι,⟨λi L b hi k => ?_,λi j L M hi p a o => ?_,λi n vs c => ?_⟩,St.bo l _,λi hi=>f i (by rw[St.size_push]at hi;omega),λi a => ?_,m⟩
 ·rw[St.j5 (ne i L hi)]at k;exact d.blk i L b hi k
 ·rw[St.j5 (ne i L hi)]at a;exact absurd a (g i)
 ·by_cases e:i=σ.size
  ·subst e;rw[St.bf]at c;cases c
  ·rw[St.j5 e]at c;exact d.eb i n vs c
 ·by_cases e:i=σ.size
  ·subst e;rw[St.bf]at a;exact a
  ·rw[St.j5 e]at a;exact g i a
theorem yo.C4{H:Type}{enc:TypeId×Value->H}{P:Program}{base w:Nat}{spare:Nat->Bool}{B:Bool}{W:World}{σ:St}{vs:List Value}{u:List T}(h:yo W σ vs u)
 {r:Reach} {t e:TypeId} {ks:List AK} {n:Nat} {v:Value} {d:DataW H} {G:List MemPlace} (F:P.underlying t=some (.slice e)) (C:vm P n e=some ks) (z:P.cellsOf e=ks.length)
 (g:Value.okWide P W r w t v) (j:DataW.Trod enc P W base spare B t v d G) :
 ∃rows:List (List S),(∀x∈rows,bC KS ks x)/\∃a,MD a σ.size rows/\rows.length<9223372036854775808/\yo W (σ.push (c7 rows.flatten)) (v::vs) (a::u):=by
 rcases Ds F C z g j with rfl | ⟨b,o,cap,rows,rfl,⟨q,c⟩,E,L,y,D,k⟩
 ·exact⟨[],(λx k=>by cases k),Z .av,.inl ⟨rfl,rfl⟩,by simp,h.dead.flat (x := .av) λ_=>rfl⟩
 ·exact⟨rows,E,_,.inr ⟨cap,q,rfl⟩,c,h.slice q L y D k⟩
theorem KS.int{k:IntKind}{x:S}(h:KS (.int k) x):∃n,x = .int k n/\(Lit.int k n).wf=true:=by
 cases x<;>first | exact h.elim | (obtain⟨rfl,c⟩:=h;exact⟨_,rfl,c⟩)
end Go.Abs
namespace Go.Abs.F
open Go Go.Abs
section
variable {X Y:T}
end
theorem aw(y:Int)(a : -2 ^ 63<=y)(b:y<2 ^ 63):IntKind.i64.wrap y=y:=by
 unfold IntKind.wrap;simp[IntKind.signed,IntKind.bits];omega
theorem wrap_u64(x:Int):0<=IntKind.u64.wrap x:=by
 unfold IntKind.wrap;simp[IntKind.signed,IntKind.bits];omega
theorem bH(x:Int)(a:0<=x)(b:x<2 ^ 64):IntKind.u64.wrap x=x:=by
 unfold IntKind.wrap;simp[IntKind.signed,IntKind.bits];omega
section
variable {Q Q':List T->Prop}{X Y:T}
end
end Go.Abs.F
namespace Go.Abs
open Go Go.Abs.F Go.RowKit
structure Still(w u:World):Prop where
 os:u.os=w.os
 output:u.output=w.output
 size:w.heap.size<=u.heap.size
 block:∀k,k<w.heap.size->u.heap[k]? = w.heap[k]?
theorem Still.refl(w:World):Still w w:=⟨rfl,rfl,au _,λ_ _=>rfl⟩
theorem Still.of{w u:World}(h:Below w.heap.size w u):Still w u:=⟨h.os,h.output,h.size,h.block⟩
theorem Rel.below{ι:cV}{g:Mem}{w u:World}(e:Rel ι g w)(d:Still w u):Rel ι g u:=by
 refine⟨λi L b hi h => ?_,e.sep,e.eb⟩;have c:=e.blk i L b hi h;cases b with
 |dead=>trivial
 |K own vs=>exact c.congr (d.block _ (c.lt trivial))
 |map es=>exact c.congr (d.block _ (c.lt trivial))
 |eb g vs=>exact c.congr (d.block _ (c.lt trivial))
 |mark vs=>exact c.congr (d.block _ (c.lt trivial))
theorem Ext.below{ι:cV}{σ:St}{w u:World}(a:Still w u):Ext ι σ w ι σ u:=
 ⟨au _,λ_ _=>rfl,λ_ _ h=>h,λ_ _ h=>h,λ_ _ _=>rfl,λi L c d=>by omega,a.os,a.output,a.size,λk b _=>a.block k b⟩
theorem ld{P:Program}{c:bc}(h:∀f a σ t b,c f a σ=some (t,b)->b=σ/\∀ι w vs,Rel ι σ.get w->bC (aT ι) a vs →
 Calls P f vs.toArray w λe u=>∃v,e = .returned v/\Still w u/\aT ι t v):aS P c:=by
 constructor
 ·intro f a σ t b d j;obtain⟨rfl,_⟩:=h f a σ t b d;exact⟨j,au _⟩
 ·intro f a σ t b d j ι w vs g n k;obtain⟨rfl,m⟩:=h f a σ t b d;refine(m ι w vs g k).mono ?_;rintro e u ⟨v,rfl,i,l⟩;exact⟨ι,v,rfl,Ext.below i,g.below i,l⟩
theorem Qd{P:Program}{ι:cV}{m:Mem}{w:World}{name:String}{k:IntKind}{zs:List Int}{g i:Nat}(f:Rel ι m w)(h:m i=some (.eb g (zs.map (S.int k))))(r:P.globalNamed name=some g) :
 Lib.TabIs P w name k zs:=by
 obtain⟨L,p⟩:=f.eb i _ _ h;obtain⟨q,c,e,u,d,l,n⟩:=f.blk i L _ p h;unfold Lib.TabIs World.var?;rw[r];rw[q]at d;simp only[o5,d]
 congr 1
 apply Array.ext';apply nt;intro j;by_cases a:j<zs.length
 ·obtain⟨v,t,s⟩:=n j (S.int k zs[j]) (by simp[a]);have b:v = .int k zs[j]:=s;subst b
  simpa[a]using t
 ·have o:c.size=zs.length:=by simpa using l
  rw[iS (by simpa[o]using a),iS (by simpa using a)]
def mc(g:Nat)(vs:List S):St:=St.empty.push (.eb g vs)
theorem yo.eb{P:Program}{W:World}{name:String}{k:IntKind}{o:List Int}{g:Nat}(w:P.globalNamed name=some g)(h:Lib.TabIs P W name k o) :
 yo W (mc g (o.map (S.int k))) [] []:=by
 unfold Lib.TabIs World.var? at h;rw[w]at h;simp only[o5]at h;split at h
 ·rename_i cs e z u;cases h
  have d:∀i b,(mc g (o.map (S.int k))).get i=some b->i=0/\b = .eb g (o.map (S.int k)):=by
   intro i b hi;unfold mc at hi;by_cases e:i=0
   ·subst e;have:=St.bf St.empty (.eb g (o.map (S.int k)));rw[show St.empty.size=0 from rfl]at this;rw[this]at hi;cases hi;exact⟨rfl,rfl⟩
   ·rw[St.j5 (by simpa using e)]at hi;cases hi
  refine⟨λi=>if i=0 then some ⟨g,0,0,0⟩else none,⟨λi L b hi r => ?_,λi j L M hi B q => ?_,λi n vs hi => ?_⟩,St.bo St.rl _,λi hi => ?_,λi hi => ?_,.nil⟩
  ·obtain⟨rfl,rfl⟩:=d i b r;simp only[bY,jD]at hi;subst hi;refine⟨rfl,_,_,_,u,by simp,λj x t => ?_⟩;rw[cL,o6]at t;obtain⟨n,y,rfl⟩:=t;exact⟨.int k n,by simp[y],rfl⟩
  ·exfalso;cases c:(mc g (o.map (S.int k))).get i with
   |none=>rw[c]at q;exact q
   |some b=>obtain⟨_,rfl⟩:=d i b c;rw[c]at q;exact q
  ·obtain⟨rfl,_⟩:=d i _ hi;exact⟨_,rfl⟩
  ·have:i≠0:=by
    have:(mc g (o.map (S.int k))).size=1:=rfl;omega
   simp[this]
  ·cases c:(mc g (o.map (S.int k))).get i with
   |none=>rw[c]at hi;exact hi
   |some b=>obtain⟨_,rfl⟩:=d i b c;rw[c]at hi;exact hi
 ·cases h
end Go.Abs
namespace Go.Abs.F
open Go Go.Abs
def Cr(g:Nat)(k:IntKind)(a:List Int):St:=mc g (a.map (S.int k))
def Km(g:Nat)(k:IntKind)(a:List Int)(σ:St):Bool:=decide (σ.get 0=some (.eb g (a.map (S.int k))))
theorem HZ(g:Nat)(k:IntKind)(a:List Int):(Cr g k a).get 0=some (.eb g (a.map (S.int k))):=St.bf St.empty _
end Go.Abs.F
namespace Go.Abs
open Go Go.Abs.F
def Gr(s t:St):Prop:=t.wf/\s.size<=t.size/\∀b,b<s.size->t.get b=s.get b
theorem Gr.refl{s:St}(a:s.wf):Gr s s:=⟨a,au _,λ_ _=>rfl⟩
theorem Gr.push{s:St}(a:s.wf)(b:er):Gr s (s.push b):=⟨St.bo a _,by simp,λc d=>St.j5 (by omega)⟩
theorem Gr.trans{a b c:St}(h:Gr a b)(k:Gr b c):Gr a c:=⟨k.1,bl h.2.1 k.2.1,λx d=>by rw[k.2.2 x (bh d h.2.1),h.2.2 x d]⟩
theorem Gr.wf{s t:St}(h:Gr s t):t.wf:=h.1
theorem Gr.get{s t:St}(h:Gr s t){b:Nat}{x:er}(a:s.get b=some x)(c:s.wf):t.get b=some x:=by rw[h.2.2 b (c.lt a),a]
def own:S->Option Nat
 | .emp c _=>some c
 | .sl c _ _ _=>some c
 |_=>none
def QL(e:Nat):S->Prop
 | .sl _ _ n (.known c)=>n<=c
 | .sl _ _ _ (.grown g)=>g=e
 | .emp _ g=>g=e
 |_=>True
structure Rd(e:Nat)(s:St)(x:S)(n:Nat)(vs:List S):Prop where
 len:vs.length=n*e
 rd:(n=0/\(x = .av\/(∃c g,x = .emp c g)\/∃c o cap,x = .sl c o 0 cap))\/∃c o cap w rows,x = .sl c o n cap/\s.get c=some (.K w rows)/\o+n*e<=rows.length/\(rows.drop o).take (n*e)=vs
 cap:QL e x
structure Ow(e:Nat)(s:St)(x:S)(n:Nat)(vs:List S):Prop where
 len:vs.length=n*e
 ow:(x = .av/\n=0)\/(∃c rows,x = .emp c e/\n=0/\s.get c=some (.K true rows))\/∃c rows cap,x = .sl c 0 n cap/\(cap = .grown e\/cap = .known n)/\s.get c=some (.K true rows)/\n*e<=rows.length/\rows.take (n*e)=vs
section
variable {e n m:Nat}{s t:St}{x y:S}{vs ws:List S}
theorem Rd.nil(e:Nat)(s:St):Rd e s .av 0 []:=⟨by simp,.inl ⟨rfl,.inl rfl⟩,trivial⟩
theorem Ow.nil(e:Nat)(s:St):Ow e s .av 0 []:=⟨by simp,.inl ⟨rfl,rfl⟩⟩
theorem Ow.rd(h:Ow e s x n vs):Rd e s x n vs:=by
 refine⟨h.len,?_,?_⟩
 ·rcases h.ow with ⟨rfl,rfl⟩ | ⟨c,rows,rfl,rfl,_⟩ | ⟨c,rows,cap,rfl,j,d,k,g⟩
  ·exact .inl ⟨rfl,.inl rfl⟩
  ·exact .inl ⟨rfl,.inr (.inl ⟨c,e,rfl⟩)⟩
  ·exact .inr ⟨c,0,_,true,rows,rfl,d,by omega,by simpa using g⟩
 ·rcases h.ow with ⟨rfl,rfl⟩ | ⟨c,rows,rfl,rfl,_⟩ | ⟨c,rows,cap,rfl,j,d,k,g⟩
  ·trivial
  ·exact rfl
  ·rcases j with rfl | rfl
   ·exact rfl
   ·exact au _
theorem Rd.lens(h:Rd e s x n vs):aG (Z x)=some (I .i64 n):=by
 rcases h.rd with ⟨rfl,rfl | ⟨c,g,rfl⟩ | ⟨c,o,cap,rfl⟩⟩ | ⟨c,o,cap,w,rows,rfl,_⟩<;>rfl
theorem Rd.src(h:Rd e s x n vs):gZ e (Z x) s.get=some (n,vs):=by
 have d:=h.len;rcases h.rd with ⟨rfl,rfl | ⟨c,g,rfl⟩ | ⟨c,o,cap,rfl⟩⟩ | ⟨c,o,cap,w,rows,rfl,k,q,r⟩
 ·have:vs=[]:=cJ (by simpa using d);subst this;rfl
 ·have:vs=[]:=cJ (by simpa using d);subst this;rfl
 ·have:vs=[]:=cJ (by simpa using d);subst this;simp[gZ]
 ·by_cases j:n=0
  ·subst j;have:vs=[]:=cJ (by simpa using d);subst this;simp[gZ]
  ·simp only[gZ,ae j,k,af q,r]
theorem Rd.keep(h:Rd e s x n vs)(k:∀c,own x=some c->t.get c=s.get c):Rd e t x n vs:=by
 refine⟨h.len,?_,h.cap⟩;rcases h.rd with h | ⟨c,o,cap,w,rows,rfl,d,g,j⟩
 ·exact .inl h
 ·exact .inr ⟨c,o,cap,w,rows,rfl,by rw[k c rfl];exact d,g,j⟩
theorem Ow.keep(h:Ow e s x n vs)(g:∀c,own x=some c->t.get c=s.get c):Ow e t x n vs:=by
 refine⟨h.len,?_⟩;rcases h.ow with h | ⟨c,rows,rfl,rfl,d⟩ | ⟨c,rows,cap,rfl,o,d,j,k⟩
 ·exact .inl h
 ·exact .inr (.inl ⟨c,rows,rfl,rfl,by rw[g c rfl];exact d⟩)
 ·exact .inr (.inr ⟨c,rows,cap,rfl,o,by rw[g c rfl];exact d,j,k⟩)
theorem Ow.lt(h:Ow e s x n vs)(j:s.wf){c:Nat}(g:own x=some c):c<s.size:=by
 rcases h.ow with ⟨rfl,rfl⟩ | ⟨k,rows,rfl,rfl,d⟩ | ⟨k,rows,cap,rfl,_,d,o,q⟩
 ·cases g
 ·cases g;exact j.lt d
 ·cases g;exact j.lt d
theorem Rd.gr(h:Rd e s x n vs)(b:∀c,own x=some c->c<s.size)(g:Gr s t):Rd e t x n vs:=h.keep λc a=>g.2.2 c (b c a)
theorem Ow.gr(h:Ow e s x n vs)(b:s.wf)(g:Gr s t):Ow e t x n vs:=h.keep λc a=>g.2.2 c (h.lt b a)
theorem zA(rows:List S)(o:Nat):aQ rows o []=rows:=rfl
theorem Ow.append{by_:Nat}(h:Ow e s x n vs)(z:s.wf)(X:0<e)(C:gZ e (Z y) s.get=some (m,ws))(j:ws.length=m*e)(J:(n+m)*by_<=140737488355328) :
 ∃x' t,aF e by_ (Z x) (Z y) s=some (Z x',t)/\t.wf/\s.size<=t.size/\Ow e t x' (n+m) (vs++ws)/\(∀b,b<s.size->own x≠some b->t.get b=s.get b)/\(own x'=none\/own x'=own x\/∃c,own x'=some c/\s.size<=c):=by
 have d:e≠0:=by omega
 have u:=h.len;have k:(vs++ws).length=(n+m)*e:=by rw[aI,u,j,bJ]
 have T:m*by_<=140737488355328:=bl (dx _ (by omega)) J;rcases h.ow with ⟨rfl,rfl⟩ | ⟨c,rows,rfl,rfl,B⟩ | ⟨c,rows,cap,rfl,U,B,Q,G⟩
 ·have O:vs=[]:=cJ (by simpa using u);subst O;by_cases w:m=0
  ·subst w;have D:ws=[]:=cJ (by simpa using j);subst D;refine⟨.av,s,?_,z,au _,⟨by simp,.inl ⟨rfl,rfl⟩⟩,λ_ _ _=>rfl,.inl rfl⟩;unfold aF;rw[C];dsimp only;rw[ae d,af rfl]
  ·refine⟨.sl s.size 0 m (.grown e),s.push (.K true ws),?_,St.bo z _,by simp,⟨k,.inr (.inr ⟨s.size,ws,_,by rw[a7],.inl rfl,St.ec,by rw[a7,j];exact au _,by rw[a7,dD];exact b8 (by omega)⟩)⟩,λb H _=>St.j5 (by omega),.inr (.inr ⟨_,rfl,au _⟩)⟩;unfold aF;rw[C];dsimp only;rw[ae d,ae w,af T]
 ·have r:=z.lt B;have O:vs=[]:=cJ (by simpa using u);subst O;have E:e=e/\m*by_<=140737488355328:=⟨rfl,T⟩;by_cases w:m=0
  ·subst w;have D:ws=[]:=cJ (by simpa using j);subst D;refine⟨.emp c e,s,?_,z,au _,⟨by simp,.inr (.inl ⟨c,rows,rfl,rfl,B⟩)⟩,λ_ _ _=>rfl,.inr (.inl rfl)⟩;unfold aF;rw[C];dsimp only;rw[ae d,af E,af rfl]
  ·have V:((s.set c .dead).push (.K true ws)).get s.size=some (.K true ws):=by
    have:=St.bf (s.set c .dead) (.K true ws)
    rwa [St.size_set]at this
   refine⟨.sl s.size 0 m (.grown e),(s.set c .dead).push (.K true ws),?_,St.bo (St.wf_set z r _) _,by simp,⟨k,.inr (.inr ⟨s.size,ws,_,by rw[a7],.inl rfl,V,by rw[a7,j];exact au _,by rw[a7,dD];exact b8 (by omega)⟩)⟩,λb H g => ?_,.inr (.inr ⟨_,rfl,au _⟩)⟩
   ·unfold aF;rw[C];dsimp only;rw[ae d,af E,ae w,B]
   ·have:b≠c:=λe=>g (by rw[e];rfl)
    rw[St.j5 (by rw[St.size_set];omega),St.bO this]
 ·have r:=z.lt B
  have N:∀q:St,q.size=s.size->(q.push (.K true (vs++ws))).get s.size=some (.K true (vs++ws)):=λq I=>by
   have:=St.bf q (.K true (vs++ws))
   rwa [I]at this
  have o:∀q:St,q.size=s.size->Ow e (q.push (.K true (vs++ws))) (.sl s.size 0 (n+m) (.grown e)) (n+m) (vs++ws):=λq I=>
   ⟨k,.inr (.inr ⟨s.size,vs++ws,_,rfl,.inl rfl,N q I,by omega,b8 (by omega)⟩)⟩
  have F:0+n*e<=rows.length:=by omega
  rcases U with rfl | rfl
  ·have E:e=e/\(n+m)*by_<=140737488355328:=⟨rfl,J⟩;by_cases w:m=0
   ·subst w;have D:ws=[]:=cJ (by simpa using j);subst D;refine⟨.sl c 0 n (.grown e),s,?_,z,au _,⟨by simpa using u,.inr (.inr ⟨c,rows,_,rfl,.inl rfl,B,Q,by simpa using G⟩)⟩,λ_ _ _=>rfl,.inr (.inl rfl)⟩;unfold aF;rw[C];dsimp only;rw[ae d,af E,af rfl]
   ·by_cases S:0+(n+m)*e<=rows.length
    ·have R:(n+m)*e=n*e+m*e:=bJ _ _ _;refine⟨.sl c 0 (n+m) (.grown e),s.set c (.K true (aQ rows (0+n*e) ws)),?_,St.wf_set z r _,by simp,⟨k,.inr (.inr ⟨c,_,_,rfl,.inl rfl,St.dh,?_,?_⟩)⟩,λb H g => ?_,.inr (.inl rfl)⟩
     ·unfold aF;rw[C];dsimp only;rw[ae d,af E,ae w,B];dsimp only;rw[af S]
     ·rw[cy _ _ _ (by omega)];simp;omega
     ·rw[cy _ _ _ (by omega),show 0+n*e=n*e by omega,G];rw[lL (by omega)];exact b8 (by omega)
     ·have:b≠c:=λe=>g (by rw[e];rfl)
      exact St.bO this
    ·refine⟨.sl s.size 0 (n+m) (.grown e),(s.set c .dead).push (.K true (vs++ws)),?_,St.bo (St.wf_set z r _) _,by simp,o _ (by simp),λb H g => ?_,.inr (.inr ⟨_,rfl,au _⟩)⟩
     ·unfold aF;rw[C];dsimp only;rw[ae d,af E,ae w,B];dsimp only;rw[ae S,af F,ek,G]
     ·have:b≠c:=λe=>g (by rw[e];rfl)
      rw[St.j5 (by rw[St.size_set];omega),St.bO this]
  ·by_cases w:m=0
   ·subst w;have D:ws=[]:=cJ (by simpa using j);subst D;have I:true=true/\0+n*e+0*e<=rows.length:=⟨rfl,by omega⟩;refine⟨.sl c 0 n (.known n),s.set c (.K true rows),?_,St.wf_set z r _,by simp,⟨by simpa using u,.inr (.inr ⟨c,rows,_,rfl,.inr rfl,St.dh,Q,by simpa using G⟩)⟩,λb H g => ?_,.inr (.inl rfl)⟩
    ·unfold aF;rw[C];dsimp only;rw[ae d,af J,B];dsimp only;rw[af (by omega),af I,zA];rfl
    ·have:b≠c:=λe=>g (by rw[e];rfl)
     exact St.bO this
   ·refine⟨.sl s.size 0 (n+m) (.grown e),s.push (.K true (vs++ws)),?_,St.bo z _,by simp,o _ rfl,λb H g=>St.j5 (by omega),.inr (.inr ⟨_,rfl,au _⟩)⟩;unfold aF;rw[C];dsimp only;rw[ae d,af J,B];dsimp only;rw[ae (by omega),af F,ek,G]
structure Fr(e:Nat)(s0 s:St)(x:S)(n:Nat)(vs:List S):Prop where
 gr:Gr s0 s
 ow:Ow e s x n vs
 new:∀c,own x=some c->s0.size<=c/\c<s.size
theorem Fr.nil(e:Nat){s:St}(b:s.wf):Fr e s s .av 0 []:=⟨Gr.refl b,Ow.nil e s,λc a=>by cases a⟩
theorem Fr.rd{s0:St}(h:Fr e s0 s x n vs):Rd e s x n vs:=h.ow.rd
theorem Fr.j6{s0 t:St}(h:Fr e s0 s x n vs)(g:Gr s t):Fr e s0 t x n vs:=
 ⟨h.gr.trans g,h.ow.gr h.gr.1 g,λc a=>⟨(h.new c a).1,bh (h.new c a).2 g.2.1⟩⟩
theorem Fr.from{s0 b:St}(g:Gr s0 b)(h:Fr e b s x n vs):Fr e s0 s x n vs:=
 ⟨g.trans h.gr,h.ow,λc a=>⟨bl g.2.1 (h.new c a).1,(h.new c a).2⟩⟩
theorem Fr.mo{s0:St}{by_:Nat}(h:Fr e s0 s x n vs)(D:0<e)(G:gZ e (Z y) s.get=some (m,ws))(k:ws.length=m*e)(F:(n+m)*by_<=140737488355328) :
 ∃x' t,aF e by_ (Z x) (Z y) s=some (Z x',t)/\Fr e s0 t x' (n+m) (vs++ws)/\s.size<=t.size/\(∀b,b<s.size->own x≠some b->t.get b=s.get b)/\(own x'=none\/own x'=own x\/∃c,own x'=some c/\s.size<=c):=by
 obtain⟨⟨I,N,E⟩,B,o⟩:=h;obtain⟨x',t,z,q,H,r,u,w⟩:=B.append I D G k F;refine⟨x',t,z,⟨⟨q,by omega,λb j => ?_⟩,r,λc d => ?_⟩,H,u,w⟩
 ·rw[u b (by omega) (λe=>by have:=o b e;omega)];exact E b j
 ·have g:=r.lt q d;rcases w with e | e | ⟨J,e,C⟩
  ·rw[e]at d;cases d
  ·rw[e]at d;exact⟨(o c d).1,g⟩
  ·rw[e]at d;cases d;exact⟨by omega,g⟩
theorem Fr.append{s0:St}{by_:Nat}(h:Fr e s0 s x n vs)(g:0<e)(j:gZ e (Z y) s.get=some (m,ws))(f:ws.length=m*e)(i:(n+m)*by_<=140737488355328) :
 ∃x' t,aF e by_ (Z x) (Z y) s=some (Z x',t)/\Fr e s0 t x' (n+m) (vs++ws)/\s.size<=t.size/\∀b,b<s.size->own x≠some b->t.get b=s.get b:=by
 obtain⟨x',t,a,b,c,d,_⟩:=h.mo g j f i;exact⟨x',t,a,b,c,d⟩
theorem Fr.lit(e:Nat){s:St}(d:s.wf){n:Nat}{vs:List S}(b:vs.length=n*e):Fr e s (s.push (.K true vs)) (.sl s.size 0 n (.known n)) n vs:=
 ⟨Gr.push d _,⟨b,.inr (.inr ⟨s.size,vs,_,rfl,.inr rfl,St.ec,by omega,b8 (by omega)⟩)⟩,λc a=>by cases a;exact⟨au _,by simp⟩⟩
theorem Rd.at(h:Rd e s x n vs){j:Nat}{i:Int}(hi:i=j)(k:j<n):∃c p,ar e (Z x) (I .i64 i)=some (Z (.ptr c p))/\(∀f v,f<e->vs[j*e+f]? = some v->aa (Z (.ptr c (p+f))) s.get=some (Z v)) ∧
 ay e (Z (.ptr c p)) s.get=some (.v (.agg ((vs.drop (j*e)).take e))):=by
 rcases h.rd with ⟨rfl,_⟩ | ⟨b,o,cap,w,rows,rfl,d,y,g⟩
 ·omega
 ·have u:j*e+e<=n*e:=by
   have:(j+1)*e<=n*e:=dx _ k
   rwa [bJ,lM]at this
  refine⟨b,o+j*e,eu hi k,λf v z q=>ag d ?_,?_⟩
  ·rw[<-g,ux (by omega),nu]at q;rw[aH];exact q
  ·have r:o+j*e+e<=rows.length:=by omega
   have t:(vs.drop (j*e)).take e=(rows.drop (o+j*e)).take e:=by
    rw[<-g,nr,gm,lY,gp (by omega)]
   simp only[ay,d,af r,t]
theorem Rd.CJ(h:Rd 1 s x n vs){j:Nat}{i:Int}{v:S}(hi:i=j)(a:vs[j]? = some v):∃p,ar 1 (Z x) (I .i64 i)=some p/\aa p s.get=some (Z v):=by
 have e:j<n:=by
  have:=(bq.1 a).1;have:=h.len;omega
 obtain⟨c,p,b,d,_⟩:=h.at hi e;exact⟨_,b,by have:=d 0 v (by omega) (by simpa using a);simpa using this⟩
theorem fM{len cap k:Nat}(h:k<=cap):dr len cap none (some (I .i64 k)) none=some (0,k,cap):=by
 have e:mi (I .i64 k) cap=some k:=by
  have a:(0:Int)<=(k:Int):=by omega
  have b:(k:Int)<=(cap:Int):=by omega
  simp[mi,h]
 delta dr
 dsimp only;rw[e]
theorem pG{len cap lo hi:Nat}(h:lo<=hi)(k:hi<=cap):dr len cap (some (I .i64 lo)) (some (I .i64 hi)) none=some (lo,hi,cap):=by
 have e:mi (I .i64 hi) cap=some hi:=by
  have c:(0:Int)<=(hi:Int):=by omega
  have b:(hi:Int)<=(cap:Int):=by omega
  simp[mi,k]
 have a:mi (I .i64 lo) hi=some lo:=by
  have b:(lo:Int)<=(hi:Int):=by omega
  simp[mi,h]
 delta dr
 dsimp only;rw[e];dsimp only;rw[a]
theorem eH{len cap lo:Nat}(h:lo<=len)(k:len<=cap):dr len cap (some (I .i64 lo)) none none=some (lo,len,cap):=by
 have a:mi (I .i64 lo) len=some lo:=by
  have b:(lo:Int)<=(len:Int):=by omega
  simp[mi,h]
 delta dr
 dsimp only;rw[a]
theorem Rd.Dw(h:Rd e s x n vs){lo hi:Nat}{l r:Option T}(t:∀len cap,n<=cap->len=n->dr len cap l r none=some (lo,hi,cap))(O:lo<=hi)(Q:hi<=n) :
 ∃y,aB e (Z x) l r none=some (Z y)/\Rd e s y (hi-lo) ((vs.drop (lo*e)).take ((hi-lo)*e))/\(own y=none\/own y=own x):=by
 have J:=h.len
 have hmul:lo*e+(hi-lo)*e<=n*e:=by
  rw[<-bJ];exact dx _ (by omega)
 have d:((vs.drop (lo*e)).take ((hi-lo)*e)).length=(hi-lo)*e:=by rw[bb,fK];omega
 have j:=h.cap;rcases h.rd with ⟨rfl,rfl | ⟨c,g,rfl⟩ | ⟨c,o,cap,rfl⟩⟩ | ⟨c,o,cap,w,rows,rfl,E,N,G⟩
 ·obtain rfl:hi=0:=by omega
  obtain rfl:lo=0:=by omega
  refine⟨.av,?_,⟨d,.inl ⟨rfl,.inl rfl⟩,trivial⟩,.inl rfl⟩;have:=t 0 0 (au _) rfl;simp only[aB,this]
 ·obtain rfl:hi=0:=by omega
  obtain rfl:lo=0:=by omega
  have u:g=e:=j;refine⟨.emp c e,?_,⟨d,.inl ⟨rfl,.inr (.inl ⟨c,e,rfl⟩)⟩,rfl⟩,.inr rfl⟩;have:=t 0 0 (au _) rfl;simp only[aB,this,af u]
 ·obtain rfl:hi=0:=by omega
  obtain rfl:lo=0:=by omega
  cases cap with
  |known k=>
   refine⟨.sl c (if k=0 then o else o+0*e) 0 (.known (k-0)),?_,⟨d,.inl ⟨rfl,.inr (.inr ⟨_,_,_,rfl⟩)⟩,cc _⟩,.inr rfl⟩;have:=t 0 k (cc _) rfl;simp only[aB,this]
  |grown g=>
   have u:g=e:=j;refine⟨.emp c e,?_,⟨d,.inl ⟨rfl,.inr (.inl ⟨c,e,rfl⟩)⟩,rfl⟩,.inr rfl⟩;have:=t 0 0 (au _) rfl;simp only[aB,this,af u];rfl
 ·have B:∀D,D=o+lo*e->(rows.drop D).take ((hi-lo)*e)=(vs.drop (lo*e)).take ((hi-lo)*e):=λD H=>by
   rw[H,<-G,nr,gm,lY,gp (by omega)]
  cases cap with
  |known k=>
   have I:n<=k:=j;have q:=t n k I rfl;by_cases z:k=lo
   ·have C:hi-lo=0:=(by omega);refine⟨.sl c o (hi-lo) (.known (k-lo)),?_,⟨d,.inl ⟨C,.inr (.inr ⟨c,o,_,by rw[C]⟩)⟩,by show hi-lo<=k-lo;omega⟩,.inr rfl⟩;simp only[aB,q,af z]
   ·refine⟨.sl c (o+lo*e) (hi-lo) (.known (k-lo)),?_,⟨d,.inr ⟨c,_,_,w,rows,rfl,E,by omega,B _ rfl⟩,by show hi-lo<=k-lo;omega⟩,.inr rfl⟩;simp only[aB,q,ae z]
  |grown g=>
   have u:g=e:=j;have q:=t n n (au _) rfl;by_cases F:lo<n
   ·refine⟨.sl c (o+lo*e) (hi-lo) (.grown e),?_,⟨d,.inr ⟨c,_,_,w,rows,rfl,E,by omega,B _ rfl⟩,rfl⟩,.inr rfl⟩;simp only[aB,q,af u,af F]
   ·have C:hi-lo=0:=(by omega);refine⟨.emp c e,?_,⟨d,.inl ⟨C,.inr (.inl ⟨c,e,rfl⟩)⟩,rfl⟩,.inr rfl⟩;simp only[aB,q,af u,ae F]
theorem Rd.piece(h:Rd e s x n vs){lo hi:Nat}(a:lo<=hi)(b:hi<=n) :
 ∃y,aB e (Z x) (some (I .i64 lo)) (some (I .i64 hi)) none=some (Z y)/\Rd e s y (hi-lo) ((vs.drop (lo*e)).take ((hi-lo)*e))/\(own y=none\/own y=own x):=
 h.Dw (λlen cap c d=>pG a (by omega)) a b
theorem Rd.upto(h:Rd e s x n vs){hi:Nat}(d:hi<=n) :
 ∃y,aB e (Z x) none (some (I .i64 hi)) none=some (Z y)/\Rd e s y hi (vs.take (hi*e))/\(own y=none\/own y=own x):=by
 obtain⟨y,a,b,c⟩:=h.Dw (lo:=0) (hi:=hi) (l:=none) (r:=some (I .i64 hi)) (λlen cap f g=>fM (by omega)) (cc _) d;exact⟨y,a,by simpa using b,c⟩
theorem Rd.pS(h:Rd e s x n vs){lo:Nat}(d:lo<=n) :
 ∃y,aB e (Z x) (some (I .i64 lo)) none none=some (Z y)/\Rd e s y (n-lo) (vs.drop (lo*e))/\(own y=none\/own y=own x):=by
 obtain⟨y,a,b,c⟩:=h.Dw (lo:=lo) (hi:=n) (l:=some (I .i64 lo)) (r:=none) (λlen cap g f=>by subst f;exact eH d g) d (au _);refine⟨y,a,?_,c⟩;have f:=h.len;have:(vs.drop (lo*e)).take ((n-lo)*e)=vs.drop (lo*e):=b8 (by rw[fK,Nat.sub_mul];omega)
 rwa [this]at b
end
section
variable {α:Type}{enc:α->List S}{e:Nat}
def cells(enc:α->List S)(l:List α):List S:=(l.map enc).flatten
@[simp] theorem Qn:cells enc []=[]:=rfl
@[simp] theorem fm (a:α) (l:List α):cells enc (a::l)=enc a++cells enc l:=by simp[cells]
theorem dK(l r:List α):cells enc (l++r)=cells enc l++cells enc r:=by simp[cells]
theorem dn(c:∀a,(enc a).length=e):∀l:List α,(cells enc l).length=l.length*e
 | []=>by simp
 |a::l=>by rw[fm,aI,c,dn c l,bB,bJ,lM,zP]
theorem hG(c:∀a,(enc a).length=e):∀(k:Nat) (l:List α),(cells enc l).drop (k*e)=cells enc (l.drop k)
 | 0,l=>by simp
 |k+1,[]=>by simp
 |k+1,a::l=>by
  have d:(enc a++cells enc l).drop e=cells enc l:=Ad (c a);rw[fm,Ae,<-hG c k l]
  conv=>rhs;rw[<-d]
  rw[lY,bJ,lM,zP]
theorem fp(c:∀a,(enc a).length=e):∀(k:Nat) (l:List α),(cells enc l).take (k*e)=cells enc (l.take k)
 | 0,l=>by simp
 |k+1,[]=>by simp
 |k+1,a::l=>by
  rw[fm,uG,fm,<-fp c k l,bJ,lM];have d:(enc a).length=e:=c a;rw[FM,b8 (by omega)]
  congr 2
  omega
theorem ji(b:∀a,(enc a).length=e){l:List α}{j:Nat}{a:α}(h:l[j]? = some a):((cells enc l).drop (j*e)).take e=enc a:=by
 rw[hG b,cU (bq.1 h).1,fm,(bq.1 h).2];rw[lL (by rw[b];exact au _)];exact b8 (by rw[b];exact au _)
theorem jh(b:∀a,(enc a).length=e){l:List α}{j f:Nat}{a:α}(h:l[j]? = some a)(c:f<e):(cells enc l)[j*e+f]? = (enc a)[f]? := by
 rw[<-ji b h,ux c,nu]
end
def U(bs:List UInt8):List S:=bs.map λb => .int .u8 b.toNat
@[simp] theorem pe (bs:List UInt8):(U bs).length=bs.length:=by simp[U]
theorem uN(a b:List UInt8):U (a++b)=U a++U b:=by simp[U]
theorem O7(bs:List UInt8)(j:Nat):(U bs)[j]? = (bs[j]?).map λb=>S.int .u8 b.toNat:=by simp[U]
theorem yq(bs:List UInt8)(n:Nat):(U bs).take n=U (bs.take n):=by simp[U,rz]
theorem yp(bs:List UInt8)(n:Nat):(U bs).drop n=U (bs.drop n):=by simp[U,List.map_drop]
abbrev RB(s:St)(x:S)(bs:List UInt8):Prop:=Rd 1 s x bs.length (U bs)
abbrev FB(s0 s:St)(x:S)(bs:List UInt8):Prop:=Fr 1 s0 s x bs.length (U bs)
theorem jW(n a:Nat)(h:a<2 ^ n):(BitVec.ofInt n (a:Int)).toNat=a:=by
 rw[Eb];have:((a:Int)%((2 ^ n:Nat):Int))=a:=Mm (by omega) (by omega);rw[this];rfl
theorem gx(x:Nat):IntKind.u8.wrap x=((x%256:Nat):Int):=by
 unfold IntKind.wrap;simp[IntKind.signed,IntKind.bits]
theorem wrap32(x:Nat):IntKind.u32.wrap x=((x%4294967296:Nat):Int):=by
 unfold IntKind.wrap;simp[IntKind.signed,IntKind.bits]
theorem wrap64(x:Nat)(h:x<2 ^ 64):IntKind.u64.wrap x=(x:Int):=bH _ (by omega) (by omega)
theorem fJ(x:Nat)(h:x<2 ^ 63):IntKind.i64.wrap x=(x:Int):=aw _ (by omega) (by omega)
theorem Pv(a b:Nat)(c:a<256)(d:b<256):ah .and (I .u8 a) (I .u8 b)=some (I .u8 ((a &&& b:Nat))):=by
 have h:a &&& b<256:=FQ FN c;show some (I .u8 (IntKind.u8.wrap ((BitVec.ofInt 8 a &&& BitVec.ofInt 8 b).toNat:Nat)))=_
 rw[Ea,jW 8 a c,jW 8 b d,gx,eU h]
theorem QN(a b:Nat)(c:a<256)(d:b<256):ah .or (I .u8 a) (I .u8 b)=some (I .u8 ((a ||| b:Nat))):=by
 have h:a ||| b<2 ^ 8:=lN c d
 show some (I .u8 (IntKind.u8.wrap ((BitVec.ofInt 8 a ||| BitVec.ofInt 8 b).toNat:Nat)))=_
 rw[Ec,jW 8 a c,jW 8 b d,gx,eU h]
theorem Ex(a b:Nat)(c:a<2 ^ 64)(d:b<2 ^ 64):ah .and (I .u64 a) (I .u64 b)=some (I .u64 ((a &&& b:Nat))):=by
 have h:a &&& b<2 ^ 64:=FQ FN c;show some (I .u64 (IntKind.u64.wrap ((BitVec.ofInt 64 a &&& BitVec.ofInt 64 b).toNat:Nat)))=_
 rw[Ea,jW 64 a c,jW 64 b d,wrap64 _ h]
theorem Du(a b:Nat)(c:a<2 ^ 64)(d:b<2 ^ 64):ah .or (I .u64 a) (I .u64 b)=some (I .u64 ((a ||| b:Nat))):=by
 have h:a ||| b<2 ^ 64:=lN c d
 show some (I .u64 (IntKind.u64.wrap ((BitVec.ofInt 64 a ||| BitVec.ofInt 64 b).toNat:Nat)))=_
 rw[Ec,jW 64 a c,jW 64 b d,wrap64 _ h]
theorem uq(a b:Nat)(h:a*2 ^ b<2 ^ 64)(f:b<64):ah .shl (I .u64 a) (I .u64 b)=some (I .u64 ((a*2 ^ b:Nat))):=by
 have e:min b 64=b:=by omega
 have d:¬((b:Int)<0):=by omega
 have c:(a:Int)*2 ^ b=((a*2 ^ b:Nat):Int):=by push_cast;rfl
 simp only[ah,pI,ae d,iY,IntKind.bits,e,c,wrap64 _ h]
theorem gW(k:IntKind)(a b:Nat)(f:b<=k.bits):ah .shr (I k a) (I .u64 b)=some (I k ((a / 2 ^ b:Nat))):=by
 have e:min b k.bits=b:=by omega
 have d:¬((b:Int)<0):=by omega
 have c:(a:Int).fdiv (2 ^ b)=((a / 2 ^ b:Nat):Int):=by
  have:(2:Int) ^ b=((2 ^ b:Nat):Int):=by push_cast;rfl
  rw[this,Int.fdiv_eq_ediv_of_nonneg _ (z6 _)];exact(Int.natCast_ediv _ _).symm
 simp only[ah,pI,ae d,iY,e,c]
def cB(n:Nat):List UInt8->Nat
 | []=>n
 |c::r=>cB ((n*257+c.toNat+1)%4294967291) r
def pc:Nat->Nat->List UInt8
 | 0,n=>[UInt8.ofNat n]
 |f+1,n=>if 128<=n then UInt8.ofNat (n%128+128)::pc f (n / 128)else [UInt8.ofNat n]
def aq(n:Nat):List UInt8:=pc 10 n
def four(n:Nat):List UInt8:=[UInt8.ofNat n,UInt8.ofNat (n / 256),UInt8.ofNat (n / 65536),UInt8.ofNat (n / 16777216)]
def mC(bs:List UInt8)(at_:Nat):Nat->Nat->Nat->Option (Nat×Nat)
 | 0,_,_=>none
 |f+1,k,n=>match bs[at_+k]? with
  |none=>none
  |some c=>
   if k=9/\1<c.toNat then none else
   if 128<=c.toNat then mC bs at_ f (k+1) (n ||| (c.toNat%128)*2 ^ (7*k))else
   if 0<k/\c.toNat=0 then none else some (n ||| (c.toNat%128)*2 ^ (7*k),at_+k+1)
def fY(bs:List UInt8)(at_:Nat):Option (Nat×Nat):=if at_<=bs.length then mC bs at_ 10 0 0 else none
theorem NW{bs:List UInt8}{at_:Nat}:∀(f k n:Nat) {r:Nat×Nat},mC bs at_ f k n=some r->at_+k<r.2/\r.2<=bs.length:=by
 intro f;induction f with
 |zero=>intro k n r h;cases h
 |succ f g=>
  intro k n r h;unfold mC at h;split at h
  ·cases h
  ·rename_i c d;have e:=(bq.1 d).1;split at h
   ·cases h
   ·split at h
    ·have:=g _ _ h;omega
    ·split at h
     ·cases h
     ·cases h;exact⟨by show at_+k<at_+k+1;omega,by show at_+k+1<=bs.length;omega⟩
theorem mT{bs:List UInt8}{at_ v e:Nat}(h:fY bs at_=some (v,e)):at_<e/\e<=bs.length:=by
 unfold fY at h;split at h
 ·have:=NW _ _ _ h;exact⟨by simpa using this.1,this.2⟩
 ·cases h
theorem Pq.step(n c:Nat)(d:n<4294967291)(b:c<256)(u:St):(ah .mul (I .u64 n) (I .u64 257)=some (I .u64 ((n*257:Nat))))/\ah .add (I .u64 ((n*257:Nat))) (I .u64 c)=some (I .u64 ((n*257+c:Nat))) ∧
 ah .add (I .u64 ((n*257+c:Nat))) (I .u64 1)=some (I .u64 ((n*257+c+1:Nat)))/\ah .rem (I .u64 ((n*257+c+1:Nat))) (I .u64 4294967291)=some (I .u64 (((n*257+c+1)%4294967291:Nat))):=by
 refine⟨?_,?_,?_,?_⟩
 ·rw[zf,show((n:Int)*257)=((n*257:Nat):Int) by omega,wrap64 _ (by omega)]
 ·rw[cw,show(((n*257:Nat):Int)+c)=((n*257+c:Nat):Int) by omega,wrap64 _ (by omega)]
 ·rw[cw,show(((n*257+c:Nat):Int)+1)=((n*257+c+1:Nat):Int) by omega,wrap64 _ (by omega)]
 ·have e:((n*257+c+1:Nat):Int).tmod 4294967291=(((n*257+c+1)%4294967291:Nat):Int):=by
   rw[Mq (by omega)];omega
  have a:(4294967291:Int)≠0:=by decide
  simp only[zu _ _ _ a,e]
theorem q8:∀(bs:List UInt8) (n:Nat),n<4294967291->cB n bs<4294967291:=by
 intro bs;induction bs with
 |nil=>intro n h;exact h
 |cons c r d=>intro n h;exact d _ (di _ (by decide))
theorem Lo:∀(f n:Nat),(pc f n).length<=f+1:=by
 intro f;induction f with
 |zero=>intro n;simp[pc]
 |succ f c=>
  intro n;unfold pc;split
  ·have:=c (n / 128);simp;omega
  ·simp
theorem aX(n:Nat):(aq n).length<=11:=Lo 10 n
theorem QM:∀m:Nat,m<256->(m ||| 128)=m%128+128:=by decide +kernel
theorem ey(n:Nat):(UInt8.ofNat n).toNat=n%256:=by simp
theorem KO(s:St)(c:Nat):aE s (aN 1 (aA [.int .u8 0] [(0,1,I .u8 c)]))=some (Z (.sl s.size 0 1 (.known 1)),s.push (.K true [.int .u8 c])):=by
 simp[aE,aN,aA,V.cells,aQ]
theorem PS(s:St)(a b c d:Nat):aE s (aN 4 (aA [.int .u8 0,.int .u8 0,.int .u8 0,.int .u8 0] [(0,1,I .u8 a),(1,1,I .u8 b),(2,1,I .u8 c),(3,1,I .u8 d)])) =
 some (Z (.sl s.size 0 4 (.known 4)),s.push (.K true [.int .u8 a,.int .u8 b,.int .u8 c,.int .u8 d])):=by
 simp[aE,aN,aA,V.cells,aQ]
section
variable {s t:St}{x y:S}{bs cs:List UInt8}
theorem RB.r9(h:RB s x bs):aG (Z x)=some (I .i64 bs.length):=h.lens
theorem RB.H9(h:RB s x bs){j:Nat}{n:Int}{c:UInt8}(b:n=j)(a:bs[j]? = some c):∃p,ar 1 (Z x) (I .i64 n)=some p/\aa p s.get=some (I .u8 c.toNat):=
 Rd.CJ h b (by rw[O7,a];rfl)
theorem yg:∀bs:List UInt8,lJ (U bs)=some bs
 | []=>rfl
 |b::r=>by
  have c:=yg r;show lJ (.int .u8 b.toNat::U r)=_
  simp[lJ,c]
theorem RB.str(h:RB s x bs):bQ (Z x) s.get=some (Z (.str bs)):=by
 have d:bs.length=0->bs=[]:=λe=>cJ e
 rcases h.rd with ⟨j,rfl | ⟨c,g,rfl⟩ | ⟨c,o,cap,rfl⟩⟩ | ⟨c,o,cap,w,vs,rfl,r,k,n⟩
 ·rw[d j];rfl
 ·rw[d j];rfl
 ·rw[d j];simp[bQ]
 ·by_cases q:bs.length=0
  ·rw[d q];simp[bQ]
  ·rw[dZ]at k n;simp only[bQ,ae q,r,af k,n,yg]
theorem FB.app{s0:St}(h:FB s0 s x bs)(a:RB s y cs)(c:bs.length+cs.length<=1000000) :
 ∃x' t,aF 1 1 (Z x) (Z y) s=some (Z x',t)/\FB s0 t x' (bs++cs)/\s.size<=t.size/\∀b,b<s.size->own x≠some b->t.get b=s.get b:=by
 obtain⟨x',t,e,f,g,k⟩:=h.append (by_:=1) (by omega) a.src a.len (by omega);exact⟨x',t,e,by unfold FB;rw[uN,aI];exact f,g,k⟩
theorem FB.MF{s0:St}(h:FB s0 s x bs)(a:RB s y cs)(d:bs.length+cs.length<=1000000) :
 ∃x' t,aF 1 1 (Z x) (Z y) s=some (Z x',t)/\FB s0 t x' (bs++cs)/\s.size<=t.size/\(∀b,b<s.size->own x≠some b->t.get b=s.get b)/\(own x'=none\/own x'=own x\/∃c,own x'=some c/\s.size<=c):=by
 obtain⟨x',t,e,f,g,k,n⟩:=h.mo (by_:=1) (by omega) a.src a.len (by omega);exact⟨x',t,e,by unfold FB;rw[uN,aI];exact f,g,k,n⟩
theorem DU(bs:List UInt8):iQ bs=U bs:=rfl
theorem FB.Pw{s0:St}(h:FB s0 s x bs)(a:bs.length+cs.length<=1000000) :
 ∃x' t,aF 1 1 (Z x) (Z (.str cs)) s=some (Z x',t)/\FB s0 t x' (bs++cs)/\s.size<=t.size/\∀b,b<s.size->own x≠some b->t.get b=s.get b:=by
 obtain⟨x',t,e,f,g,k⟩:=h.append (by_:=1) (y := .str cs) (m:=cs.length) (ws:=U cs) (by omega) (by simp[gZ,DU]) (by simp) (by omega);exact⟨x',t,e,by unfold FB;rw[uN,aI];exact f,g,k⟩
theorem FB.lit{s0:St}(h:FB s0 s x bs)(d:bs.length+cs.length<=1000000) :
 ∃x' t,aF 1 1 (Z x) (Z (.sl s.size 0 cs.length (.known cs.length))) (s.push (.K true (U cs)))=some (Z x',t)/\FB s0 t x' (bs++cs)/\s.size<=t.size/\∀b,b<s.size->own x≠some b->t.get b=s.get b:=by
 have l:=Fr.lit 1 h.gr.1 (n:=cs.length) (vs:=U cs) (by simp);obtain⟨x',t,e,f,g,k⟩:=FB.app (Fr.j6 h l.gr) (cs:=cs) l.rd d;exact⟨x',t,e,f,bl l.gr.2.1 g,λb c a=>by rw[k b (bh c l.gr.2.1) a];exact l.gr.2.2 b c⟩
end
theorem zb(bs:List UInt8):aV (Z (.str bs))=some (I .i64 bs.length):=rfl
theorem jU{bs:List UInt8}{j:Nat}{n:Int}{c:UInt8}(h:n=j)(d:bs[j]? = some c):bZ (Z (.str bs)) (I .i64 n)=some (I .u8 c.toNat):=by
 subst h;have g:=(bq.1 d).1
 have e:nH (I .i64 (j:Int)) bs.length=some j:=by
  simp[nH,g]
 show(match nH (I .i64 (j:Int)) bs.length with
  |some j=>match bs[j]? with
   |some b=>some (I .u8 b.toNat)
   |none=>none
  |none=>none)=_
 rw[e];dsimp only;rw[d]
theorem b7(a b:List UInt8)(h:a.length+b.length<=100000):ah .add (Z (.str a)) (Z (.str b))=some (Z (.str (a++b))):=by
 have:¬((a.length+b.length:Nat):Int)>IntKind.i64.max:=by
  show ¬_>(9223372036854775807:Int)
  omega
 simp only[ah,Az,ae this]
end Go.Abs
namespace Go.Abs.F
open Go Go.Abs
section
variable {s:St}{a:T}{c e:Nat}{rows:List (List S)}
theorem sS:∀{rows:List (List S)},(∀r∈rows,r.length=e)->rows.flatten.length=rows.length*e
 | [],_=>by simp
 |r::l,h=>by
  have c:=sS (rows:=l) λx g=>h x (by simp[g])
  have d:=h r (by simp);rw[p8,aI,c,d,bB,bJ,lM];omega
theorem RP(q:MD a c rows)(y:0<e)(w:∀r∈rows,r.length=e)(j:s.get c=some (c7 rows.flatten)):∃x,a=Z x/\Rd e s x rows.length rows.flatten/\∀d,own x=some d->d=c:=by
 have g:=sS w;rcases q with ⟨rfl,rfl⟩ | ⟨cap,t,rfl⟩
 ·exact⟨.av,rfl,Rd.nil e s,λd h=>by cases h⟩
 ·refine⟨.sl c 0 rows.length (.known cap),rfl,⟨g,?_,t⟩,λd h=>by cases h;rfl⟩;cases rows with
  |nil=>exact .inl ⟨rfl,.inr (.inr ⟨c,0,_,rfl⟩)⟩
  |cons r l=>
   have n:(r::l).flatten≠[]:=λk=>by
    have:=bw List.length k;rw[g,bB,bJ]at this;simp at this;omega
   have o:c7 (r::l).flatten = .K false (r::l).flatten:=by
    cases u:(r::l).flatten with
    |nil=>exact absurd u n
    |cons _ _=>rfl
   rw[o]at j;exact .inr ⟨c,0,_,false,_,rfl,j,by rw[g];omega,by rw[ek,b8 (by rw[g];omega)]⟩
theorem x9{k:IntKind}:∀{rows:List (List S)},(∀r∈rows,bC KS [.int k] r)->∃is:List Int,rows=is.map (λi=>[.int k i])/\∀i∈is,(Lit.int k i).wf=true
 | [],_=>⟨[],rfl,λi h=>by cases h⟩
 |r::l,h=>by
  obtain⟨is,c,d⟩:=x9 (rows:=l) λx j=>h x (by simp[j])
  have e:=h r (by simp);cases e with
  |cons p q=>
   cases q;obtain⟨n,rfl,g⟩:=KS.int p
   exact⟨n::is,by rw[c];rfl,λi hi=>by
    rcases cq.1 hi with rfl | hi
    ·exact g
    ·exact d i hi⟩
theorem sU(f:Int->S):∀is:List Int,(is.map λi=>[f i]).flatten=is.map f
 | []=>rfl
 |i::l=>by rw[eE,p8,sU f l];rfl
theorem L0{k:IntKind}(u:MD a c rows)(j:∀r∈rows,bC KS [.int k] r)(w:s.get c=some (c7 rows.flatten)):∃x,∃is:List Int,a=Z x/\Rd 1 s x is.length (is.map (S.int k))/\(∀d,own x=some d->d=c)/\∀i∈is,(Lit.int k i).wf=true:=by
 obtain⟨is,n,o⟩:=x9 j;obtain⟨x,rfl,g,t⟩:=RP u (e:=1) (by decide) (λr h=>by have:=j r h;cases this with | cons p q=>cases q;rfl) w;refine⟨x,is,rfl,?_,t,o⟩;rw[n,sU,oY]at g;exact g
theorem Ey{n:Int}(h:(Lit.int .u8 n).wf=true):∃c:UInt8,n=(c.toNat:Int):=by
 have a:IntKind.u8.min<=n/\n<=IntKind.u8.max:=by simpa[Lit.wf]using h
 have b:(0:Int)<=n/\n<=255:=a;exact⟨UInt8.ofNat n.toNat,by rw[ey];omega⟩
theorem Fj(o:MD a c rows)(u:∀r∈rows,bC KS [.int .u8] r)(g:s.get c=some (c7 rows.flatten)):∃x bs,a=Z x/\RB s x bs/\∀d,own x=some d->d=c:=by
 obtain⟨x,is,rfl,h,n,k⟩:=L0 o u g
 have:∃bs:List UInt8,is.map (S.int .u8)=U bs:=by
  clear h;induction is with
  |nil=>exact⟨[],rfl⟩
  |cons i l w=>
   obtain⟨bs,g⟩:=w λj q=>k j (by simp[q])
   obtain⟨c,rfl⟩:=Ey (k i (by simp));exact⟨c::bs,by rw[eE,g];rfl⟩
 obtain⟨bs,e⟩:=this;refine⟨x,bs,rfl,?_,n⟩
 have t:is.length=bs.length:=by
  have:=bw List.length e
  simpa[U]using this
 unfold RB;rw[<-t,<-e];exact h
end
end Go.Abs.F
namespace Go.Abs
open Go Go.Abs.F
abbrev Bs:=List UInt8
def qa(c:UInt8):Bs->Nat->Int
 | [],_ => -1
 |b::r,k=>match Nat.beq b.toNat c.toNat with
  |true=>(k:Int)
  |false=>qa c r (k+1)
def gK(c:UInt8):Bs->Nat
 | []=>0
 |b::r=>match Nat.beq b.toNat c.toNat with
  |true=>gK c r+1
  |false=>gK c r
def pK(b:UInt8):List Bs->List Bs
 | []=>[[b]]
 |h::t=>(b::h)::t
def bL(c:UInt8):Bs->List Bs
 | []=>[[]]
 |b::r=>match Nat.beq b.toNat c.toNat with
  |true=>[]::bL c r
  |false=>pK b (bL c r)
def eQ(c:Bs):List Bs->Bs
 | []=>[]
 | [x]=>x
 |x::y::r=>x++c++eQ c (y::r)
theorem KC(c b:UInt8)(r:Bs)(k:Nat):qa c (b::r) k=match Nat.beq b.toNat c.toNat with
 |true=>(k:Int)
 |false=>qa c r (k+1):=rfl
theorem Gp(c b:UInt8)(r:Bs):gK c (b::r)=match Nat.beq b.toNat c.toNat with
 |true=>gK c r+1
 |false=>gK c r:=rfl
theorem oo(c b:UInt8)(r:Bs):bL c (b::r)=match Nat.beq b.toNat c.toNat with
 |true=>[]::bL c r
 |false=>pK b (bL c r):=rfl
theorem jH{b c:UInt8}:Nat.beq b.toNat c.toNat=true↔b=c:=by
 constructor
 ·intro h;exact nk (dY h)
 ·rintro rfl;exact kQ _
theorem sM{b c:UInt8}:Nat.beq b.toNat c.toNat=false↔b≠c:=by
 constructor
 ·intro h e;rw[jH.2 e]at h;cases h
 ·intro h;cases d:Nat.beq b.toNat c.toNat with
  |true=>exact absurd (jH.1 d) h
  |false=>rfl
theorem KD(c:UInt8):∀(l:Bs) (k:Nat),qa c l k = -1\/(k:Int)<=qa c l k
 | [],_ => .inl rfl
 |b::r,k=>by
  unfold qa;cases Nat.beq b.toNat c.toNat with
  |true=>exact .inr (zZ _)
  |false=>rcases KD c r (k+1)with h | h
          ·exact .inl h
          ·exact .inr (by show(k:Int)<=qa c r (k+1);omega)
theorem jj(c:UInt8):∀(l:Bs) (k:Nat),qa c l k=if qa c l 0 = -1 then -1 else qa c l 0+k
 | [],k=>rfl
 |b::r,k=>by
  unfold qa;cases d:Nat.beq b.toNat c.toNat with
  |true=>simp
  |false=>
   dsimp only;rw[jj c r (k+1),jj c r (0+1)];split
   ·simp
   ·rename_i h;have:=(KD c r 0).resolve_left h;rw[ae (by omega)];omega
theorem EY(c:UInt8):∀l:Bs,Lib.indexByte l c=qa c l 0
 | []=>rfl
 |b::r=>by
  unfold Lib.indexByte qa;rw[EY c r];by_cases h:b=c
  ·subst h;simp
  ·have g:=sM.2 h;have e:(b == c)=false:=by simpa using h
   rw[e,g];dsimp only;rw[jj c r (0+1)];by_cases d:qa c r 0 = -1
   ·simp[d]
   ·have:(qa c r 0 == -1)=false:=by simpa using d
    simp[this,d]
theorem AR(c:UInt8):∀l:Bs,Lib.countByte l c=gK c l
 | []=>rfl
 |b::r=>by
  have d:=AR c r;unfold Lib.countByte at d ⊢;unfold gK;by_cases h:b=c
  ·subst h;rw[jH.2 rfl,List.count_cons_self,d]
  ·rw[sM.2 h,List.count_cons_of_ne (by simpa using h),d]
theorem oD(c:UInt8):∀l:Bs,gK c l<=l.length
 | []=>au _
 |b::r=>by
  have:=oD c r;unfold gK;cases Nat.beq b.toNat c.toNat<;>simp<;>omega
theorem fw(c:UInt8):∀l:Bs,(bL c l).length=gK c l+1
 | []=>rfl
 |b::r=>by
  have d:=fw c r;unfold bL gK;cases Nat.beq b.toNat c.toNat with
  |true=>simp[d]
  |false=>
   dsimp only;cases e:bL c r with
   |nil=>rw[e]at d;simp at d
   |cons h t=>rw[e]at d;simpa[pK]using d
theorem tE(c:UInt8):∀l:Bs,(qa c l 0 = -1/\gK c l=0/\bL c l=[l]) ∨
 ∃m,m<l.length/\qa c l 0=m/\bL c l=l.take m::bL c (l.drop (m+1))/\gK c l=gK c (l.drop (m+1))+1
 | [] => .inl ⟨rfl,rfl,rfl⟩
 |b::r=>by
  rw[KC,Gp,oo];cases j:Nat.beq b.toNat c.toNat with
  |true=>exact .inr ⟨0,by simp,rfl,by simp,by simp⟩
  |false=>
   dsimp only;rcases tE c r with ⟨d,e,g⟩ | ⟨m,h,d,e,g⟩
   ·exact .inl ⟨by rw[jj c r (0+1),d];rfl,e,by rw[g];rfl⟩
   ·refine .inr ⟨m+1,by simp;omega,?_,?_,g⟩
    ·rw[jj c r (0+1),d,ae (by omega)];omega
    ·rw[e];rfl
theorem Gs(c:UInt8)(l:Bs):(qa c l 0 = -1/\l.takeWhile (λb => !Nat.beq b.toNat c.toNat)=l)\/∃m,m<l.length/\qa c l 0=m/\l.takeWhile (λb => !Nat.beq b.toNat c.toNat)=l.take m:=by
 induction l with
 |nil=>exact .inl ⟨rfl,rfl⟩
 |cons b r h=>
  unfold qa;cases g:Nat.beq b.toNat c.toNat with
  |true=>exact .inr ⟨0,by simp,rfl,by simp[g]⟩
  |false=>
   dsimp only;rcases h with ⟨d,e⟩ | ⟨m,j,d,e⟩
   ·exact .inl ⟨by rw[jj c r (0+1),d];rfl,by rw[jB];simp[g,e]⟩
   ·refine .inr ⟨m+1,by simp;omega,?_,by rw[jB];simp[g,e]⟩;rw[jj c r (0+1),d,ae (by omega)];omega
theorem p1(c:UInt8):∀l:Bs,((bL c l).map List.length).sum<=l.length
 | []=>by simp[bL]
 |b::r=>by
  have d:=p1 c r;unfold bL;cases Nat.beq b.toNat c.toNat with
  |true=>simp;omega
  |false=>
   dsimp only;cases e:bL c r with
   |nil=>simp[pK]
   |cons h t=>rw[e]at d;simp[pK]at d ⊢;omega
theorem vz:∀(L:List Bs) (x:Bs),x∈L->x.length<=(L.map List.length).sum
 | [],x,h=>by cases h
 |y::r,x,h=>by
  rcases cq.1 h with rfl | h
  ·simp
  ·have:=vz r x h;simp;omega
theorem DS(c:UInt8)(l x:Bs)(h:x∈bL c l):x.length<=l.length:=by
 have a:=p1 c l;have b:x.length<=((bL c l).map List.length).sum:=vz _ _ h;omega
theorem r8(c:Bs):∀l:List Bs,Lib.join l c=eQ c l
 | []=>rfl
 | [x]=>by rw[Lib.join_one];rfl
 |x::y::r=>by
  rw[show eQ c (x::y::r)=x++c++eQ c (y::r) from rfl,<-r8 c (y::r)];simp[Lib.join,List.intercalate,List.intersperse]
def dI:List Bs->Nat
 | []=>0
 |x::r=>x.length+dI r
theorem xB(c:Bs):∀l:List Bs,(eQ c l).length<=dI l+l.length*c.length
 | []=>by simp[eQ,dI]
 | [x]=>by simp[eQ,dI]
 |x::y::r=>by
  have:=xB c (y::r);simp only[eQ,dI,aI,bB]at this ⊢;rw[bJ];omega
theorem q9:∀l:List Bs,dI l=(l.map List.length).sum
 | []=>rfl
 |x::r=>by simp[dI,q9 r]
def c8(l:List Bs):List S:=l.map S.str
@[simp] theorem L6 (l:List Bs):(c8 l).length=l.length:=by simp[c8]
theorem lI(a b:List Bs):c8 (a++b)=c8 a++c8 b:=by simp[c8]
theorem HY(l:List Bs)(n:Nat):(c8 l).take n=c8 (l.take n):=by simp[c8,rz]
theorem Cp(l:List Bs)(j:Nat):(c8 l)[j]? = (l[j]?).map S.str:=by simp[c8]
abbrev RT(s:St)(x:S)(l:List Bs):Prop:=Rd 1 s x l.length (c8 l)
abbrev FT(s0 s:St)(x:S)(l:List Bs):Prop:=Fr 1 s0 s x l.length (c8 l)
theorem RT.MG{s:St}{x:S}{l:List Bs}(h:RT s x l){j:Nat}{n:Int}{c:Bs}(b:n=j)(a:l[j]? = some c):∃p,ar 1 (Z x) (I .i64 n)=some p/\aa p s.get=some (Z (.str c)):=
 Rd.CJ h b (by rw[Cp,a];rfl)
theorem FT.lit{s0 s:St}{x:S}{l:List Bs}{c:Bs}(h:FT s0 s x l)(j:l.length<=1000000) :
 ∃x' t,(∃g,aE s (aN 1 (aA [.str []] [(0,1,Z (.str c))]))=some (Z (.sl s.size 0 1 (.known 1)),g)/\aF 1 16 (Z x) (Z (.sl s.size 0 1 (.known 1))) g=some (Z x',t))/\FT s0 t x' (l++[c])/\s.size<=t.size/\∀b,b<s.size->own x≠some b->t.get b=s.get b:=by
 have L:=Fr.lit 1 h.gr.1 (n:=1) (vs:=c8 [c]) (by simp);obtain⟨x',t,e,f,i,k⟩:=(h.j6 L.gr).append (by_:=16) (by omega) L.rd.src (by simp) (by omega);refine⟨x',t,⟨s.push (.K true (c8 [c])),by simp[aE,aN,aA,V.cells,aQ,c8],e⟩,?_,bl L.gr.2.1 i,λb d a=>by rw[k b (bh d L.gr.2.1) a];exact L.gr.2.2 b d⟩;unfold FT;rw[lI,aI];exact f
@[simp] theorem EB (a b:Bs):ah .eql (Z (.str a)) (Z (.str b))=some (B (decide (a=b))):=by simp[ah,Az]
@[simp] theorem ue (a b:Bs):ah .neq (Z (.str a)) (Z (.str b))=some (B (!decide (a=b))):=by simp[ah,Az]
@[simp] theorem O9 (a:Bs):aV (Z (.str a))=some (I .i64 a.length):=nz rfl
theorem ew{l:Bs}{m:Nat}{n:Int}(a:n=m)(h:m<=l.length):bn (Z (.str l)) none (some (I .i64 n)) none=some (Z (.str (l.take m))):=by
 subst a;simp only[bn];rw[fM h];simp
theorem kH{l:Bs}{m:Nat}{n:Int}(a:n=m)(h:m<=l.length):bn (Z (.str l)) (some (I .i64 n)) none none=some (Z (.str (l.drop m))):=by
 subst a;simp only[bn];rw[eH h (au _)];have:l.drop m=(l.drop m).take (l.length-m):=(b8 (by simp)).symm;simp
theorem iD{l:Bs}{lo hi:Nat}{a b:Int}(c:a=lo)(d:b=hi)(h:lo<=hi)(k:hi<=l.length):bn (Z (.str l)) (some (I .i64 a)) (some (I .i64 b)) none=some (Z (.str ((l.drop lo).take (hi-lo)))):=by
 subst c;subst d;simp only[bn];rw[pG h k];dsimp only;rw[nr]
end Go.Abs
namespace Go.Abs.F
open Go Go.Abs
def EZ(fs:List Nat)(g:Nat):bc:=λf d σ=>match fs.contains f with
 |true=>match d with
  | [.v (.s (.str l)),.v (.s (.str [c]))]=>some (I .i64 (qa c l 0),σ)
  |_=>none
 |false=>match Nat.beq f g with
  |true=>match d with
   | [.v (.s (.str l)),.v (.s (.str [c]))]=>some (I .i64 (gK c l:Nat),σ)
   |_=>none
  |false=>none
theorem GS{P:Program}{fs:List Nat}{g:Nat}
 (z:∀f∈fs,∀(s:ByteArray) (c:UInt8) (w:World),Calls P f #[.string s,.string ⟨#[c]⟩] w λe w'=>e = .returned (.int .i64 (Lib.indexByte s.data.toList c))/\w'=w)
 (B:∀(s:ByteArray) (c:UInt8) (w:World),Calls P g #[.string s,.string ⟨#[c]⟩] w λe w'=>e = .returned (.int .i64 (Lib.countByte s.data.toList c))/\w'=w):aS P (EZ fs g):=by
 refine ld λf E σ t F h => ?_
 have k:∀{ι:cV} {vs:List Value} {l:Bs} {c:UInt8},bC (aT ι) [.v (.s (.str l)),.v (.s (.str [c]))] vs->∃s:ByteArray,s.data.toList=l/\vs=[.string s,.string ⟨#[c]⟩]:=by
  intro ι vs l c d;cases d with
  |cons a b=>cases b with
   |cons n o=>
    cases o;obtain⟨s,rfl,C⟩:=a;obtain⟨D,rfl,j⟩:=n;refine⟨s,C,?_⟩;obtain⟨⟨q⟩⟩:=D;simp at j;subst j;rfl
 unfold EZ at h;split at h
 ·rename_i y;split at h
  ·rename_i l c;cases h;refine⟨rfl,λι w vs r d => ?_⟩;obtain⟨s,rfl,rfl⟩:=k d;refine(z f (by simpa using y) s c w).mono ?_;rintro e u ⟨rfl,rfl⟩;exact⟨_,rfl,Still.refl _,by rw[EY];rfl⟩
  ·cases h
 ·split at h
  ·rename_i x;split at h
   ·rename_i l c;cases h;have:=dY x;subst this;refine⟨rfl,λι w vs r d => ?_⟩;obtain⟨s,rfl,rfl⟩:=k d;refine(B s c w).mono ?_;rintro e u ⟨rfl,rfl⟩;exact⟨_,rfl,Still.refl _,by rw[AR];rfl⟩
   ·cases h
  ·cases h
theorem PO{fs:List Nat}{g f:Nat}{l:Bs}{c:UInt8}{σ:St}(h:fs.contains f=true):EZ fs g f [Z (.str l),Z (.str [c])] σ=some (I .i64 (qa c l 0),σ):=by
 simp only[EZ,h]
theorem N3{fs:List Nat}{g:Nat}{l:Bs}{c:UInt8}{σ:St}(h:fs.contains g=false):EZ fs g g [Z (.str l),Z (.str [c])] σ=some (I .i64 (gK c l:Nat),σ):=by
 simp only[EZ,h,kQ]
def oq:List S->Option (List Bs)
 | []=>some []
 | .str l::r=>match oq r with
   |some k=>some (l::k)
   |none=>none
 |_::_=>none
theorem tF:∀l:List Bs,oq (c8 l)=some l
 | []=>rfl
 |x::r=>by
  have c:=tF r;show oq (.str x::c8 r)=_
  simp only[oq,c]
theorem yf:∀{vs:List S} {l:List Bs},oq vs=some l->vs=c8 l
 | [],l,h=>by cases h;rfl
 |v::r,l,h=>by
  cases v with
  |str x=>
   unfold oq at h;split at h
   ·rename_i k c;cases h;rw[yf c];rfl
   ·cases h
  |_=>simp[oq]at h
theorem tf{α:Type}{P:Nat->α->Prop}:∀n:Nat,(∀j,j<n->∃x,P j x)->∃xs:List α,xs.length=n/\∀(j:Nat) x,xs[j]? = some x->P j x
 | 0,_=>⟨[],rfl,λj x h=>by simp at h⟩
 |n+1,h=>by
  obtain⟨xs,d,e⟩:=tf n λj c=>h j (by omega)
  obtain⟨y,k⟩:=h n (by omega);refine⟨xs++[y],by simp[d],λj x c => ?_⟩;by_cases g:j<n
  ·exact e j x (by rwa [kx (by omega)]at c)
  ·rw[ky (by omega)]at c
   have:j=n:=by
    have:=(bq.1 c).1;simp at this;omega
   subst this;rw[d,zX]at c;simp at c;subst c;exact k
theorem It{α β:Type}{R:α->β->Prop}{a b:α}{us:List β}(h:bC R [a,b] us):∃x y,us=[x,y]/\R a x/\R b y:=by
 cases h with
 |cons p q=>cases q with
  |cons c q'=>cases q';exact⟨_,_,rfl,p,c⟩
def ph(g:Nat):bc:=λf d σ=>match Nat.beq f g with
 |false=>none
 |true=>match d with
  | [x,.v (.s (.str c))]=>match gZ 1 x σ.get with
    |some (n,vs)=>match oq vs with
     |some l=>match x with
      | .v (.s (.str _))=>none
      |_=>match Nat.ble (dI l+l.length*c.length) 1000000&&Nat.ble l.length 1000000 with
       |true=>some (Z (.str (eQ c l)),σ)
       |false=>none
     |none=>none
    |none=>none
  |_=>none
theorem Bx{P:Program}{g:Nat}
 (h0:∀(a:Option Addr) (c:Nat) (z:ByteArray) (w:World),Calls P g #[.slice a 0 c,.string z] w λe w'=>e = .returned (.string ⟨#[]⟩)/\w'=w)
 (h1:∀(U o c:Nat) (xs:List ByteArray) (z:ByteArray) (w:World),(∀(j:Nat) x,xs[j]? = some x->w.cell? ⟨U,o+j,none⟩=some (.string x))->U<w.heap.size->xs.length<=140737488355328->xs.length<=c →
  (Lib.join (xs.map (·.data.toList)) z.data.toList).length<=140737488355328 →
  Calls P g #[.slice (some ⟨U,o,none⟩) xs.length c,.string z] w λe w'=>e = .returned (.string ⟨(Lib.join (xs.map (·.data.toList)) z.data.toList).toArray⟩)/\Go.RowKit.Below w.heap.size w w'):aS P (ph g):=by
 refine ld λf Sw σ t Sx h => ?_
 unfold ph at h;split at h
 ·cases h
 ·rename_i Ss;have:=dY Ss;subst this;split at h
  ·rename_i x z;split at h
   ·rename_i n vs d;split at h
    ·rename_i l hl;have Sk:=yf hl;subst Sk;split at h
     ·cases h
     ·rename_i G;split at h
      ·rename_i F;cases h;rw[aM]at F;have Sp:=cm F.1;have Sr:=cm F.2;refine⟨rfl,λι w us hR hA => ?_⟩;obtain⟨u0,u1,rfl,a,a'⟩:=It hA
       ··obtain⟨I,rfl,rfl⟩:=a'
         have r:∀(T:Option Addr) (c:Nat),l=[]->Calls P f #[.slice T 0 c,.string I] w λe u=>∃v,e = .returned v/\Still w u/\aT ι (Z (.str (eQ I.data.toList l))) v:=by
          intro T c e;subst e;refine(h0 T c I w).mono ?_;rintro e u ⟨rfl,rfl⟩;exact⟨_,rfl,Still.refl _,⟨_,rfl,rfl⟩⟩
         cases x with
         |any=>cases d
         |c6 _=>cases d
         |v y=>cases y with
          |agg _=>cases d
          |s y=>cases y with
           |av=>
            simp only[gZ,jD,jF]at d
            have C:l=[]:=by
             cases l with
             |nil=>rfl
             |cons _ _=>simp[c8]at d
            have ha:u0=Value.slice none 0 0:=a;subst ha;exact r _ _ C
           |emp i e=>
            simp only[gZ,jD,jF]at d
            have C:l=[]:=by
             cases l with
             |nil=>rfl
             |cons _ _=>simp[c8]at d
            obtain⟨L,o,c,_,rfl,_⟩:=a;exact r _ _ C
           |str q=>exact absurd rfl (G q)
           |sl i o m cap=>
            have hv:∃(L:Loc) (c:Nat),ι i=some L/\m<=c/\bC (aT ι) [.v (.s (.sl i o m cap))] [Value.slice (some ⟨L.b,L.base+o,none⟩) m c]/\∃v,v=Value.slice (some ⟨L.b,L.base+o,none⟩) m c/\v=u0:=by
             cases cap with
             |known c=>obtain⟨L,J,V,N⟩:=a;exact⟨L,c,J,N,.cons ⟨L,J,rfl,N⟩ .nil,_,rfl,V.symm⟩
             |grown q=>obtain⟨L,c,J,V,N,e4⟩:=a;exact⟨L,c,J,N,.cons ⟨L,c,J,rfl,N,e4⟩ .nil,_,rfl,V.symm⟩
            obtain⟨L,c,hL,Sv,_,v,rfl,Sl⟩:=hv;subst Sl;by_cases hz:m=0
            ·subst hz;simp only[gZ,bY,jD,jF]at d
             have C:l=[]:=by
              cases l with
              |nil=>rfl
              |cons _ _=>simp[c8]at d
             exact r _ _ C
            ·simp only[gZ,ae hz]at d
             have hd:∃(own:Bool) (rows:List S),QF (σ.get i)=some (.K own rows)/\(if o+m*1<=rows.length then some (m,(rows.drop o).take (m*1))else none)=some (n,c8 l):=by
              split at d
              ·rename_i own rows k;exact⟨own,rows,by rw[k];rfl,d⟩
              ·rename_i rows k;exact⟨false,rows,by rw[k];rfl,d⟩
              ·cases d
             obtain⟨own,rows,k,d⟩:=hd
             ·split at d
              ·rename_i Sn;simp only[jD,jF]at d;obtain⟨rfl,R⟩:=d;obtain⟨cs,e,fz,k1,k2,k3,k4,k5⟩:=hR.u7.blk i L _ hL k
               have Sj:m=l.length:=by
                have:=bw List.length R;rw[bb,fK,L6]at this;omega
               have hx:∃xs:List ByteArray,xs.map (·.data.toList)=l/\∀(j:Nat) x,xs[j]? = some x->w.cell? ⟨L.b,L.base+o+j,none⟩=some (.string x):=by
                have Q:∀j,j<l.length->∃x:ByteArray,x.data.toList=l.getD j []/\w.cell? ⟨L.b,L.base+o+j,none⟩=some (.string x):=by
                 intro j E
                 have h2:rows[o+j]? = some (.str (l.getD j [])):=by
                  have:((rows.drop o).take (m*1))[j]? = (c8 l)[j]? := (by rw[R]);rw[ux (by omega),nu,Cp,aU E]at this;rw[this];simp[List.getD,E]
                 obtain⟨v,hv,x,rfl,hx⟩:=k4 _ _ h2;refine⟨x,hx,?_⟩;unfold World.cell?;simp only[k1];rw[aH]
                 simpa using hv
                obtain⟨xs,x1,x2⟩:=tf l.length Q;refine⟨xs,?_,λj x E=>(x2 j x E).2⟩;apply nt;intro j;by_cases E:j<l.length
                ·have h3:xs[j]? = some xs[j]:=aU (by omega);rw[cL,h3,aU E,ni,(x2 j _ h3).1];simp[List.getD,E]
                ·rw[iS (by simp;omega),iS (by omega)]
               obtain⟨xs,H,D⟩:=hx
               have Sm:xs.length=m:=by
                have:=bw List.length H
                simpa[<-Sj]using this
               have Y:L.b<w.heap.size:=(iZ.1 k1).1;have Su:=xB I.data.toList l
               have X:(Lib.join (xs.map (·.data.toList)) I.data.toList).length<=140737488355328:=by
                rw[H,r8];omega
               have B:=h1 L.b (L.base+o) c xs I w D Y (by omega) (by omega) X;rw[Sm]at B;refine B.mono ?_;rintro e u ⟨rfl,O⟩;refine⟨_,rfl,Still.of O,⟨_,rfl,?_⟩⟩;rw[H,r8]
              ·cases d
           |_=>cases d
      ·cases h
    ·cases h
   ·cases h
  ·cases h
theorem KI{g:Nat}{x:S}{l:List Bs}{d:Bs}{σ:St}(h:RT σ x l)(n:dI l+l.length*d.length<=1000000)(r:l.length<=1000000):ph g g [Z x,Z (.str d)] σ=some (Z (.str (eQ d l)),σ):=by
 have t:∀q,(Z x:T) ≠ .v (.s (.str q)):=by
  intro q e;rcases h.rd with ⟨_,rfl | ⟨c,g,rfl⟩ | ⟨c,o,cap,rfl⟩⟩ | ⟨c,o,cap,w,vs,rfl,_⟩<;>cases e
 have j:=dw n;have k:=dw r;unfold ph;rw[kQ];dsimp only;rw[h.src];dsimp only;rw[tF];dsimp only;rw[j,k];rcases h.rd with ⟨_,rfl | ⟨c,g,rfl⟩ | ⟨c,o,cap,rfl⟩⟩ | ⟨c,o,cap,w,vs,rfl,_⟩<;>rfl
end Go.Abs.F
namespace Go.Abs.F
open Go Go.Abs Go.Sort
abbrev BR:List Int:=Lib.pow10Tab
def PL(n:Int):Bool:=decide (-9223372036854775808<=n/\n<=9223372036854775807)
def fz:Nat->Nat->Bs
 | 0,_=>[]
 |f+1,u=>match Nat.ble 10 u with
  |true=>fz f (u / 10)++[UInt8.ofNat (48+u%10)]
  |false=>[UInt8.ofNat (48+u)]
def Kx:Int->Bs
 | .ofNat u=>fz 20 u
 | .negSucc u=>45::fz 20 (u+1)
theorem yL:∀(f u:Nat),u<10 ^ f->0<f->fz f u=Lib.decDigits u
 | 0,u,_,h=>by omega
 |f+1,u,h,_=>by
  rw[Lib.decDigits];unfold fz;cases d:Nat.ble 10 u with
  |true=>
   have c:=cm d;rw[dif_neg (by omega)];dsimp only
   have g:0<f:=by
    rcases zS f with h0 | h0
    ·subst h0;simp at h;omega
    ·exact h0
   rw[yL f (u / 10) (by rw[zW]at h;omega) g]
  |false=>
   have c:¬10<=u:=λe=>by rw[dw e]at d;cases d
   rw[dif_pos (by omega)]
theorem Ky{n:Int}(h:PL n=true):Kx n=Lib.itoa n:=by
 have h:=fL h;cases n with
 |ofNat u=>
  have c:(Int.ofNat u)=(u:Int):=rfl;rw[c]at h ⊢;show fz 20 u=_
  unfold Lib.itoa;rw[ae (by omega),yL 20 u (by omega) (by omega)];rfl
 |negSucc u=>
  show 45::fz 20 (u+1)=_
  unfold Lib.itoa;rw[af (by omega),yL 20 (u+1) (by omega) (by omega)];rfl
theorem Still.grown(w:World)(k:Nat)(os:Array Obj):Still w (grow (w.drewN k) os):=by
 refine⟨rfl,rfl,?_,λb a => ?_⟩
 ·show w.heap.size<=(w.heap++os).size
  simp
 ·show(w.heap++os)[b]? = _
  rw[F0 a]
def vy(g c:Nat):bc:=λf d σ=>match Nat.beq f c with
 |true=>match d with
  | [.v (.s (.int .i64 n))]=>match PL n&&Km g .u64 BR σ with
    |true=>some (Z (.str (Kx n)),σ)
    |false=>none
  |_=>none
 |false=>none
theorem Bv{P:Program}{g d:Nat}(z:P.globalNamed "internal/strconv.uint64pow10"=some g)
 (r:∀(n:Int),-9223372036854775808<=n->n<=9223372036854775807->∀w:World,Lib.TabIs P w "internal/strconv.uint64pow10" .u64 Lib.pow10Tab →
  Calls P d #[.int .i64 n] w λe u=>e = .returned (.string ⟨(Lib.itoa n).toArray⟩)/\∃k os,u=grow (w.drewN k) os):aS P (vy g d):=by
 refine ld λf B σ t C h => ?_
 unfold vy at h;split at h
 ·rename_i y;have:=dY y;subst this;split at h
  ·rename_i n;split at h
   ·rename_i c;rw[aM]at c;have j:=fL c.1;have o:=fL c.2;cases h;refine⟨rfl,λι w vs x q => ?_⟩;cases q with
    |cons a b=>
     cases b;have a:_=Value.int .i64 n:=a;subst a;refine(r n j.1 j.2 w (Qd x o z)).mono ?_;rintro e u ⟨rfl,k,os,rfl⟩;exact⟨_,rfl,Still.grown w k os,_,rfl,(Ky c.1).symm⟩
   ·cases h
  ·cases h
 ·cases h
theorem Kz{g a:Nat}{n:Int}{σ:St}(h:PL n=true)(c:σ.get 0=some (.eb g (BR.map (S.int .u64)))):vy g a a [I .i64 n] σ=some (Z (.str (Kx n)),σ):=by
 have b:Km g .u64 BR σ=true:=aK c;simp[vy,h,b]
end Go.Abs.F
namespace Go.Abs
open Go
theorem pq{P:Program}{W:World}{name:String}{k:IntKind}{D:List Int}{g:Nat}{t e:TypeId}{n:Nat}
 (z:P.globalNamed name=some g) (o:(P.globals[g]?).map (·.type)=some t) (B:P.underlying t=some (.array n e)) (y:P.underlying e=some (.int k)) (c:P.cellsOf e=1) (j:P.cellsOf t=n) :
 ∀(l:List (String×DataW Unit)) (C:List MemPlace),DataW.LaidVars P W l C->(name,Lib.tabData k D)∈l->Lib.TabIs P W name k D
 | [],_,_,h=>by cases h
 |(m,d)::r,C,G,h=>by
  obtain⟨H,t',cs,fuel,p,q,w,x,u,E,F,_⟩:=G;rcases cq.1 h with h | h
  ·cases h;obtain rfl:=dQ (z.symm.trans w);obtain rfl:=dQ (o.symm.trans x);unfold Lib.TabIs;rw[u,<-Lib.cells_of_tab B y c j E]
  ·exact pq z o B y c j r q F h
theorem wU{P:Program}{W:World}{name:String}{k:IntKind}{zs:List Int}{g:Nat}{t e:TypeId}{n j:Nat}{l:List (String×DataW Unit)}
 (f:P.globalNamed name=some g) (c:(P.globals[g]?).map (·.type)=some t) (m:P.underlying t=some (.array n e)) (d:P.underlying e=some (.int k)) (a:P.cellsOf e=1) (b:P.cellsOf t=n)
 (h:laidMet P l W) (i:l[j]? = some (name,Lib.tabData k zs)):Lib.TabIs P W name k zs:=by
 obtain⟨p,o,_⟩:=h;exact pq f c m d a b l p o (bS i)
end Go.Abs
