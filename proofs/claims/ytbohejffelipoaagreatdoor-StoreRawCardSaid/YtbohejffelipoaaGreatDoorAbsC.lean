/-
  A library of our own, several texts in one: an abstract store for the model, and runs over it. Nothing here speaks of any program. No conditions.
-/
import Derived.Test.YtbohejffelipoaaGreatDoorAbsB
import Derived.WalkKit
import Derived.ProofKit
import Derived.OpenShut
set_option linter.unusedVariables false
set_option linter.unusedSimpArgs false
set_option maxHeartbeats 4000000
namespace Go.Abs
open Go
def cj(o:Oper):List Nat:=(o.after.toList.filter (Region.binds .any ·)).map (·.on)
def pP(acc:List Nat)(c:List Nat):Nat:=c.foldl (λs e=>s ||| (2 ^ e ||| acc.getD e 0)) 0
def gR:List Oper->List Nat->List Nat
 | [],acc=>acc
 |o::r,acc=>gR r (acc++[pP acc (cj o)])
def eB(ops:List Oper):List Nat:=gR ops []
def tmpsOf(xs:List Operand):List Nat:=
 match xs with
 | []=>[]
 | .tmp t::r=>t::tmpsOf r
 |_::r=>tmpsOf r
def rZ(ops:List Oper)(o:Oper):List Nat:=
 match o.guard with
 |none=>[]
 |some (j,_)=>match ops[j]? with
  |some c=>c.dst.toList
  |none=>[]
def reads(ops:List Oper)(o:Oper):List Nat:=tmpsOf o.op.operands.toList++rZ ops o
def rG(P:Program)(o:Oper):Bool:=kindOf P o.op == .W
def Dv(P:Program)(ops:List Oper)(ms:List Nat)(k:Nat)(o:Oper)(j:Nat)(c:Oper):Bool:=
 Nat.beq j k ||
  ((match c.dst with
    |none=>true
    |some d=>(o.dst != some d)&&(!(reads ops o).contains d||(if j<k then(ms.getD k 0).testBit j else(ms.getD j 0).testBit k))) &&
  (!(rG P o)||(!(rG P c)||(!(Nat.blt j k)||(ms.getD k 0).testBit j))))
def jP(P:Program)(ops:List Oper)(ms:List Nat):Bool:=
 ops.zipIdx.all λ(o,k)=>(cj o).all (λe=>Nat.blt e k)&&ops.zipIdx.all λ(a,j)=>Dv P ops ms k o j a
abbrev mh:=List (List T×St)
def mh.at(h:mh)(k:Nat):List T×St:=h.getD k ([],St.empty)
def nL(P:Program)(ops:List Oper)(h:mh):List (Oper×Nat)->List (Nat×Nat×er)
 | []=>[]
 |(o,k)::r=>match kindOf P o.op with
  | .A=>match dB ops (h.at k).1 o with
    |some true=>match zk P o.op (rF (h.at k).1)with
     |some (b,_)=>(k,(h.at k).2.size,b)::nL P ops h r
     |none=>nL P ops h r
    |_=>nL P ops h r
  |_=>nL P ops h r
def cl(p:Nat)(g:Mem):List (Nat×Nat×er)->Mem
 | []=>g
 |(q,i,b)::r=>match Nat.ble p q with
  |true=>tQ (cl p g r) i b
  |false=>cl p g r
def Qo(P:Program)(ops:List Oper)(h:mh)(p:Nat):Mem:=cl p (h.at p).2.get (nL P ops h ops.zipIdx)
def wy(P:Program):List (Oper×Nat)->List Nat
 | []=>[]
 |(o,k)::r=>match rG P o with
  |true=>k::wy P r
  |false=>wy P r
def canon(ws:List Nat)(k:Nat):Nat:=ws.foldl (λs j=>if j<k then max s (j+1)else s) 0
def eO(ws:List Nat)(ms:List Nat)(k p:Nat):Bool:=ws.all λj=>(!((ms.getD k 0).testBit j)||Nat.blt j p)&&(!((ms.getD j 0).testBit k)||Nat.ble p j)
def rn(P:Program)(ops:List Oper)(ms:List Nat)(h:mh):Bool:=
 let ws:=wy P ops.zipIdx
 ops.zipIdx.all λ(o,k)=>match kindOf P o.op with
  | .L=>(0::ws.map (· + 1)).all λp => !(eO ws ms k p)||(Nat.beq p (canon ws k)||(match dB ops (h.at k).1 o with
    |some true=>decide (tP P o.op (rF (h.at k).1) (Qo P ops h p)=tP P o.op (rF (h.at k).1) (h.at k).2.get)
    |_=>true))
  |_=>true
def Ck(P:Program)(aC:bc)(ops:List Oper)(ms:List Nat):List Oper->mh->List T×St->Option (List T×St)
 | [],h,s=>if rn P ops ms (h++[s])then some s else none
 |o::r,h,s=>match step P aC ops o s with
  |some c=>Ck P aC ops ms r (h++[s]) c
  |none=>none
def um(P:Program)(aC:bc)(ops:List Oper)(s:List T×St):Option (List T×St):=
 if P.follows .mixedOrders&&jP P ops (eB ops)then Ck P aC ops (eB ops) ops [] s else none
theorem Di(acc:List Nat):∀(c:List Nat) (s j:Nat),(c.foldl (λs e=>s ||| (2 ^ e ||| acc.getD e 0)) s).testBit j=true →
 s.testBit j=true\/∃e∈c,j=e\/(acc.getD e 0).testBit j=true:=by
 intro c;induction c with
 |nil=>intro s j h;exact .inl h
 |cons d c n=>
  intro s j h;rw[Af]at h;rcases n _ j h with h | ⟨e,k,h⟩
  ·rw[Nat.testBit_or,Nat.testBit_or,kv,kv]at h;rcases h with h | h | h
   ·exact .inl h
   ·rw[Nat.testBit_two_pow]at h;have g:d=j:=by simpa using h
    exact .inr ⟨d,by simp,.inl g.symm⟩
   ·exact .inr ⟨d,by simp,.inr h⟩
  ·exact .inr ⟨e,by simp[k],h⟩
theorem ze:∀(l:List Oper) (acc:List Nat),(gR l acc).length=acc.length+l.length/\(∀k,k<acc.length->(gR l acc).getD k 0=acc.getD k 0) ∧
 ∀(i:Nat) (o:Oper),l[i]? = some o->∃pre:List Nat,(gR l acc).getD (acc.length+i) 0=pP pre (cj o)/\∀e,e<acc.length+i->pre.getD e 0=(gR l acc).getD e 0:=by
 intro l;induction l with
 |nil=>intro acc;exact⟨by simp[gR],λ_ _=>rfl,λi o h=>by simp at h⟩
 |cons o l w=>
  intro acc;obtain⟨t,g,u⟩:=w (acc++[pP acc (cj o)]);have d:(acc++[pP acc (cj o)]).length=acc.length+1:=by simp
  have c:∀k,k<acc.length->(acc++[pP acc (cj o)]).getD k 0=acc.getD k 0:=by
   intro k j;rw[dq,dq,kx j]
  refine⟨by simp only[gR];rw[t,d];simp;omega,?_,?_⟩
  ·intro k j;simp only[gR];rw[g k (by omega),c k j]
  ·intro i x hi;cases i with
   |zero=>
    simp only[lZ,jD]at hi;subst hi;refine⟨acc,?_,?_⟩
    ·simp only[gR,iX];rw[g acc.length (by omega),dq,ky (au _)];simp
    ·intro e y;simp only[gR];rw[g e (by omega),c e (by omega)]
   |succ i=>
    obtain⟨pre,n,q⟩:=u i x (by simpa using hi);have r:acc.length+(i+1)=(acc++[pP acc (cj o)]).length+i:=(by omega);simp only[gR];rw[r];exact⟨pre,n,q⟩
theorem G1{ops:List Oper}{k j:Nat}{o:Oper}(r:ops[k]? = some o)(q:∀e∈cj o,e<k)(h:((eB ops).getD k 0).testBit j=true) :
 ∃e∈cj o,j=e\/((eB ops).getD e 0).testBit j=true:=by
 obtain⟨_,_,n⟩:=ze ops [];obtain⟨pre,c,d⟩:=n k o r;simp only[dO,a7]at c d;have:(eB ops).getD k 0=pP pre (cj o):=c;rw[this]at h;rcases Di pre (cj o) 0 j h with h | ⟨e,g,h⟩
 ·simp at h
 ·refine⟨e,g,?_⟩;rcases h with h | h
  ·exact .inl h
  ·rw[d e (q e g)]at h;exact .inr h
theorem pJ{ops:List Oper}(q:∀k o,ops[k]? = some o->∀e∈cj o,e<k)(D:Nat->Prop)(t:∀k o,ops[k]? = some o->D k->∀e∈cj o,D e) :
 ∀(k:Nat) (o:Oper) (j:Nat),ops[k]? = some o->(∀e∈cj o,D e)->((eB ops).getD k 0).testBit j=true->D j:=by
 intro k;induction k using Nat.strongRecOn with
 |_ k w=>
  intro o j g r h;obtain⟨e,c,h⟩:=G1 g (q k o g) h;rcases h with rfl | h
  ·exact r _ c
  ·have n:=q k o g e c;have u:=(bq.1 g).1;have d:ops[e]? = some (ops[e]'(by omega)):=aU (by omega);exact w e n _ j d (t e _ d (r e c)) h
theorem uW(ws:List Nat)(k:Nat):canon ws k<=k/\(∀j∈ws,j<k->j<canon ws k)/\(canon ws k=0\/∃j∈ws,canon ws k=j+1):=by
 have q:∀(ws:List Nat) (s:Nat),s<=k->(s<=ws.foldl (λs j=>if j<k then max s (j+1)else s) s)/\ws.foldl (λs j=>if j<k then max s (j+1)else s) s<=k ∧
  (∀j∈ws,j<k->j<ws.foldl (λs j=>if j<k then max s (j+1)else s) s) ∧
  (ws.foldl (λs j=>if j<k then max s (j+1)else s) s=s\/∃j∈ws,ws.foldl (λs j=>if j<k then max s (j+1)else s) s=j+1):=by
  intro ws;induction ws with
  |nil=>intro s r;exact⟨au _,r,λj e=>by simp at e,.inl rfl⟩
  |cons a ws t=>
   intro s r;rw[Af];obtain⟨h,n,o,c⟩:=t (if a<k then max s (a+1)else s) (by split<;>omega);refine⟨?_,n,?_,?_⟩
   ·by_cases d:a<k
    ·rw[af d]at h ⊢;omega
    ·rw[ae d]at h ⊢;omega
   ·intro j e g;cases e with
    |head=>
     rw[af g]at h ⊢;omega
    |tail _ e=>exact o j e g
   ·rcases c with c | ⟨j,e,c⟩
    ·rw[c];split
     ·rename_i d;by_cases u:s<=a+1
      ·exact .inr ⟨a,by simp,by omega⟩
      ·exact .inl (by omega)
     ·exact .inl rfl
    ·exact .inr ⟨j,by simp[e],c⟩
 obtain⟨_,n,o,c⟩:=q ws 0 (cc _);exact⟨n,o,c⟩
structure rH(P:Program)(aC:bc)(ops:List Oper)(st:Nat->List T×St):Prop where
 step:∀k o,ops[k]? = some o->step P aC ops o (st k)=some (st (k+1))
 Sh:(st 0).2.wf
def eZ(st:Nat->List T×St)(n:Nat):mh:=(List.range n).map st
theorem r4(st:Nat->List T×St){n k:Nat}(h:k<n):(eZ st n).at k=st k:=by
 simp[mh.at,eZ,dq,cL,zG h]
theorem sX(st:Nat->List T×St)(n:Nat):eZ st (n+1)=eZ st n++[st n]:=by
 simp[eZ,FD]
theorem OV{P:Program}{aC:bc}{ops:List Oper}{ms:List Nat}:∀(l:List Oper) (k:Nat) (st:Nat->List T×St) (s u:List T×St),ops.drop k=l->k<=ops.length->st k=s →
 (∀j o,j<k->ops[j]? = some o->step P aC ops o (st j)=some (st (j+1)))->Ck P aC ops ms l (eZ st k) s=some u →
 ∃d:Nat->List T×St,(∀j,j<=k->d j=st j)/\(∀j o,ops[j]? = some o->step P aC ops o (d j)=some (d (j+1)))/\d ops.length=u/\rn P ops ms (eZ d (ops.length+1))=true:=by
 intro l;induction l with
 |nil=>
  intro k st s u w E g c h;simp only[Ck]at h;split at h
  ·rename_i I;cases h
   have x:k=ops.length:=by
    have:=bw List.length w;simp at this;omega
   subst x;refine⟨st,λ_ _=>rfl,λj o n=>c j o (bq.1 n).1 n,g,?_⟩;rw[sX,g];exact I
  ·cases h
 |cons o l J=>
  intro k st s u w E g c h
  have x:ops[k]? = some o:=by
   have:=bw (·[0]?) w
   simpa using this
  have t:=(bq.1 x).1
  have D:ops.drop (k+1)=l:=by
   have:=bw List.tail w
   simpa using this
  simp only[Ck]at h;split at h
  ·rename_i s1 G
   let e:Nat->List T×St:=λj=>if j=k+1 then s1 else st j
   have r:∀j,j<=k->e j=st j:=λj n=>by simp only[e];rw[ae (by omega)]
   have F:e (k+1)=s1:=by simp only[e,bY]
   have H:eZ st k++[s]=eZ e (k+1):=by
    rw[sX,r k (au _),g]
    congr 1
    simp only[eZ];apply oZ;intro j n;rw[r j (by have:=jA.1 n;omega)]
   rw[H]at h
   obtain⟨d,y,z,B,C⟩:=J (k+1) e s1 u D t F (by
    intro j N n q;rcases b9 j k with hjk | hjk
    ·rw[r j (by omega),r (j+1) (by omega)];exact c j N hjk q
    ·have:j=k:=(by omega);subst this;rw[x]at q;cases q;rw[r j (au _),F,g];exact G) h
   exact⟨d,λj n=>by rw[y j (by omega),r j n],z,B,C⟩
  ·cases h
section
variable {P:Program}{aC:bc}{ops:List Oper}{st:Nat->List T×St}
theorem wx{o:Oper}{s c:List T×St}(h:step P aC ops o s=some c):∃v,c.1=ct s.1 o.dst v:=by
 unfold step at h
 (repeat' split at h)<;>first | (cases h;done) | (cases h;exact⟨_,rfl⟩)
theorem rH.wf(d:aS P aC)(h:rH P aC ops st):∀k,k<=ops.length->(st k).2.wf:=by
 intro k;induction k with
 |zero=>intro _;exact h.Sh
 |succ k e=>
  intro g;have c:ops[k]? = some ops[k]:=aU (by omega);exact(ur d (h.step k _ c) (e (by omega))).1
theorem rH.size(c:aS P aC)(h:rH P aC ops st):∀d k,k+d<=ops.length->(st k).2.size<=(st (k+d)).2.size:=by
 intro d;induction d with
 |zero=>intro k _;exact au _
 |succ d g=>
  intro k j;have e:ops[k+d]? = some ops[k+d]:=aU (by omega);exact bl (g k (by omega)) (ur c (h.step (k+d) _ e) (h.wf c (k+d) (by omega))).2
theorem rH.size_le(b:aS P aC)(h:rH P aC ops st){j k:Nat}(a:j<=k)(c:k<=ops.length):(st j).2.size<=(st k).2.size:=by
 have:=h.size b (k-j) j (by omega)
 rwa [show j+(k-j)=k from by omega]at this
theorem BZ(a:List T)(d:Option Tmp)(v:T):(ct a d v).length=a.length:=by cases d<;>simp[ct]
theorem OD(c:List T){d:Option Tmp}{t:Nat}(v:T)(h:d≠some t):(ct c d v).getD t .any=c.getD t .any:=by
 cases d with
 |none=>rfl
 |some d=>
  simp only[ct];rw[vp,ae (λe=>h (by rw[e.1]))]
theorem rH.len(h:rH P aC ops st):∀k,k<=ops.length->(st k).1.length=(st 0).1.length:=by
 intro k;induction k with
 |zero=>intro _;rfl
 |succ k e=>
  intro g;have c:ops[k]? = some ops[k]:=aU (by omega);obtain⟨v,d⟩:=wx (h.step k _ c);rw[d,BZ,e (by omega)]
theorem rH.l7(h:rH P aC ops st)(t:Nat):∀(d k:Nat),k+d<=ops.length->(∀j o,k<=j->j<k+d->ops[j]? = some o->o.dst≠some t)->(st (k+d)).1.getD t .any=(st k).1.getD t .any:=by
 intro d;induction d with
 |zero=>intro k _ _;rfl
 |succ d q=>
  intro k u c;have e:ops[k+d]? = some ops[k+d]:=aU (by omega);obtain⟨v,n⟩:=wx (h.step (k+d) _ e);rw[<-aH,n,OD _ _ (c (k+d) _ (by omega) (by omega) e)];exact q k (by omega) λj o g r=>c j o g (by omega)
def Aj(P:Program)(ops:List Oper)(st:Nat->List T×St)(q:Nat)(b:er):Prop:=
 ∃o f,ops[q]? = some o/\kindOf P o.op = .A/\dB ops (st q).1 o=some true/\zk P o.op (rF (st q).1)=some (b,f)
theorem k2(h:rH P aC ops st){q:Nat}{b:er}(a:Aj P ops st q b):(st (q+1)).2=(st q).2.push b:=by
 obtain⟨o,f,e,d,g,c⟩:=a;have:=h.step q o e;unfold step at this;rw[g]at this;simp only[d,c]at this;rw[<-dQ this]
theorem Dp(h:rH P aC ops st){k:Nat}{o:Oper}(g:ops[k]? = some o)(hw:rG P o=false\/dB ops (st k).1 o=some false) :
 (st (k+1)).2=(st k).2\/∃b,Aj P ops st k b:=by
 have c:=h.step k o g;unfold step at c;split at c
 ·cases c
 ·rename_i n;left;rw[<-dQ c]
 ·rename_i e;split at c
  ·split at c
   ·left;rw[<-dQ c]
   ·cases c
  ·split at c
   ·left;rw[<-dQ c]
   ·cases c
  ·rename_i d;split at c
   ·rename_i b f j;right;exact⟨b,o,f,g,d,e,j⟩
   ·cases c
  ·rename_i d;rcases hw with hw | hw
   ·simp[rG,d]at hw
   ·rw[e]at hw;cases hw
theorem qR(p:Nat)(g:Mem)(i:Nat):∀(l:List (Nat×Nat×er)),(∀q j b,(q,j,b)∈l->p<=q->j≠i)->cl p g l i=g i:=by
 intro l;induction l with
 |nil=>intro _;rfl
 |cons a l n=>
  intro h;obtain⟨q,j,b⟩:=a;simp only[cl];have c:=n λq' o d e=>h q' o d (by simp[e])
  cases k:Nat.ble p q with
  |true=>
   simp only;rw[kP _ _ (bu (h q j b (by simp) (cm k)))];exact c
  |false=>exact c
theorem BO(p:Nat)(g:Mem)(i:Nat)(b:er):∀(l:List (Nat×Nat×er)),(∃q,(q,i,b)∈l/\p<=q)->(∀q e,(q,i,e)∈l->p<=q->e=b)->cl p g l i=some b:=by
 intro l;induction l with
 |nil=>rintro⟨q,h,_⟩;simp at h
 |cons a l w=>
  rintro⟨q,d,t⟩ u;obtain⟨q',j,e⟩:=a;simp only[cl];by_cases k:p<=q'
  ·rw[dw k];simp only;by_cases r:i=j
   ·subst r;rw[sx,u q' e (by simp) k]
   ·rw[kP _ _ r];refine w ?_ λq c n o=>u q c (by simp[n]) o
    cases d with
    |head=>exact(r rfl).elim
    |tail _ d=>exact⟨q,d,t⟩
  ·have:Nat.ble p q'=false:=by
    cases h:Nat.ble p q' with
    |true=>exact(k (cm h)).elim
    |false=>rfl
   rw[this];simp only;refine w ?_ λq c n o=>u q c (by simp[n]) o
   cases d with
   |head=>exact(k t).elim
   |tail _ d=>exact⟨q,d,t⟩
theorem xb{h:mh}{n:Nat}(H:h=eZ st n)(q i:Nat)(b:er):∀(l:List (Oper×Nat)),(∀o k,(o,k)∈l->k<n/\ops[k]? = some o) →
 ((q,i,b)∈nL P ops h l↔(∃o,(o,q)∈l)/\i=(st q).2.size/\Aj P ops st q b):=by
 subst H;intro l;induction l with
 |nil=>intro _;simp[nL]
 |cons a l J=>
  intro D;obtain⟨o,k⟩:=a;obtain⟨I,E⟩:=D o k (by simp);have r:=J λc k' hm=>D c k' (by simp[hm])
  have x:=r4 st I
  have only:∀b',Aj P ops st k b'->kindOf P o.op = .A/\dB ops (st k).1 o=some true/\∃f,zk P o.op (rF (st k).1)=some (b',f):=by
   rintro b' ⟨c,f,B,j,d,G⟩;rw[E]at B;cases B;exact⟨j,d,f,G⟩
  have g:(¬∃b',Aj P ops st k b')->(((q,i,b)∈nL P ops (eZ st n) l↔(∃c,(c,q)∈(o,k)::l)/\i=(st q).2.size/\Aj P ops st q b)):=by
   intro y;rw[r];constructor
   ·rintro⟨⟨c,hm⟩,j,d⟩;exact⟨⟨c,by simp[hm]⟩,j,d⟩
   ·rintro⟨⟨c,hm⟩,j,d⟩;refine⟨?_,j,d⟩;simp only[cq,jF]at hm;rcases hm with ⟨_,rfl⟩ | hm
    ·exact(y ⟨b,d⟩).elim
    ·exact⟨c,hm⟩
  simp only[nL,x];split
  ·rename_i u;split
   ·rename_i z;split
    ·rename_i b' f w;have t:Aj P ops st k b':=⟨o,f,E,u,z,w⟩;rw[cq,r];constructor
     ·rintro (C | ⟨⟨c,hm⟩,j,d⟩)
      ·simp only[jF]at C;obtain⟨rfl,rfl,rfl⟩:=C;exact⟨⟨o,by simp⟩,rfl,t⟩
      ·exact⟨⟨c,by simp[hm]⟩,j,d⟩
     ·rintro⟨⟨c,hm⟩,j,d⟩;simp only[cq,jF]at hm;rcases hm with ⟨_,rfl⟩ | hm
      ·obtain⟨_,_,F,e⟩:=only b d;rw[w]at e;cases e;left;rw[j]
      ·right;exact⟨⟨c,hm⟩,j,d⟩
    ·rename_i w;refine g ?_;rintro⟨b',t⟩;obtain⟨_,_,F,e⟩:=only b' t;rw[w]at e;cases e
   ·rename_i z;refine g ?_;rintro⟨b',t⟩;exact z (only b' t).2.1
  ·rename_i u;refine g ?_;rintro⟨b',t⟩;exact u (only b' t).1
theorem ga{l:List Oper}{o:Oper}{k:Nat}:(o,k)∈l.zipIdx↔l[k]? = some o:=by
 rw[List.mem_zipIdx_iff_getElem?]
def X(P:Program)(ops:List Oper)(st:Nat->List T×St)(p:Nat):Mem:=Qo P ops (eZ st (ops.length+1)) p
theorem sI(x:aS P aC)(h:rH P aC ops st){p q:Nat}{b:er}(g:Aj P ops st q b)(u:p<=q):X P ops st p (st q).2.size=some b:=by
 have c:=λ(q i:Nat) (b:er)=>xb (P:=P) (ops:=ops) (st:=st) rfl q i b ops.zipIdx (n:=ops.length+1) (λo k t=>by
  have:=ga.1 t;exact⟨by have:=(bq.1 this).1;omega,this⟩)
 refine BO p _ _ b _ ?_ ?_
 ·refine⟨q,(c q _ b).2 ⟨?_,rfl,g⟩,u⟩;obtain⟨o,f,e,_⟩:=g;exact⟨o,ga.2 e⟩
 ·intro q' y t D;obtain⟨_,F,d⟩:=(c q' _ y).1 t;have E:q<ops.length:=by obtain⟨o,f,e,_⟩:=g;exact(bq.1 e).1
  have w:q'<ops.length:=by obtain⟨o,f,e,_⟩:=d;exact(bq.1 e).1
  have z:=k2 h g;have B:=k2 h d;rcases uI q q' with hlt | rfl | hlt
  ·have:=h.size_le x (show q+1<=q' from hlt) (by omega);rw[z]at this;simp at this;omega
  ·obtain⟨o,f,e,_,_,C⟩:=g;obtain⟨H,G,r,_,_,j⟩:=d;rw[e]at r;cases r;rw[C]at j;cases j;rfl
  ·have:=h.size_le x (show q'+1<=q from hlt) (by omega);rw[B]at this;simp at this;omega
theorem nK{p i:Nat}(l:p<=ops.length)(g:∀q b,Aj P ops st q b->p<=q->(st q).2.size≠i):X P ops st p i=(st p).2.get i:=by
 have a:=λ(q i:Nat) (b:er)=>xb (P:=P) (ops:=ops) (st:=st) rfl q i b ops.zipIdx (n:=ops.length+1) (λo k c=>by
  have:=ga.1 c;exact⟨by have:=(bq.1 this).1;omega,this⟩)
 unfold X Qo;rw[qR]
 ·rw[r4 st (by omega)]
 ·intro q j b c h e;obtain⟨_,d,f⟩:=(a q j b).1 c;exact g q b f h (d.symm.trans e)
theorem xa(k:aS P aC)(h:rH P aC ops st){p i:Nat}(g:p<=ops.length)(hi:i<(st p).2.size):X P ops st p i=(st p).2.get i:=by
 refine nK g λq b c a e => ?_
 have j:q<ops.length:=by obtain⟨o,f,d,_⟩:=c;exact(bq.1 d).1
 have:=h.size_le k a (by omega);omega
theorem Ii(r:aS P aC)(h:rH P aC ops st){k:Nat}{o:Oper}(u:ops[k]? = some o)(x:rG P o=false\/dB ops (st k).1 o=some false):X P ops st k=X P ops st (k+1):=by
 have y:=(bq.1 u).1
 funext i
 by_cases hex:∃q b,Aj P ops st q b/\k+1<=q/\(st q).2.size=i
 ·obtain⟨q,b,c,j,rfl⟩:=hex;rw[sI r h c (by omega),sI r h c j]
 ·rcases Dp h u x with d | ⟨b,c⟩
  ·rw[nK (p:=k+1) (by omega) (λq b c j e=>hex ⟨q,b,c,j,e⟩),d];refine nK (by omega) λq b c j e => ?_
   rcases b9 k q with g | hge
   ·exact hex ⟨q,b,c,g,e⟩
   ·have:q=k:=(by omega);subst this;have:=k2 h c;rw[d]at this;have:=bw St.size this;simp at this
  ·rw[nK (p:=k+1) (by omega) (λq b c j e=>hex ⟨q,b,c,j,e⟩),k2 h c];by_cases e:i=(st k).2.size
   ·subst e;rw[sI r h c (au _),St.bf]
   ·rw[St.j5 e];refine nK (by omega) λq w n j t => ?_
    rcases b9 k q with g | hge
    ·exact hex ⟨q,w,n,g,t⟩
    ·have:q=k:=(by omega);subst this;exact e t.symm
theorem Ih(n:aS P aC)(h:rH P aC ops st):∀(d k:Nat),k+d<=ops.length->(∀j o,k<=j->j<k+d->ops[j]? = some o->rG P o=false)->X P ops st k=X P ops st (k+d):=by
 intro d;induction d with
 |zero=>intro k _ _;rfl
 |succ d q=>
  intro k t c;have e:ops[k+d]? = some ops[k+d]:=aU (by omega);rw[q k (by omega) λj o g r=>c j o g (by omega),<-aH];exact Ii n h e (.inl (c (k+d) _ (by omega) (by omega) e))
end
section
variable {P:Program}{aC:bc}{ops:Array Oper}{st:Nat->List T×St}
theorem th{o:Oper}{e:Nat}:e∈cj o↔∃d∈o.after,Region.binds .any d=true/\d.on=e:=by
 simp only[cj,gl,Fw];constructor
 ·rintro⟨d,⟨a,b⟩,c⟩;exact⟨d,by simpa using a,b,c⟩
 ·rintro⟨d,a,b,c⟩;exact⟨d,⟨by simpa using a,b⟩,c⟩
structure Static(P:Program)(ops:Array Oper):Prop where
 low:∀(k:Nat) (o:Oper),ops.toList[k]? = some o->∀e∈cj o,e<k
 uniq:∀(k:Nat) (o:Oper) (j:Nat) (oj:Oper) (d:Tmp),ops[k]? = some o->ops[j]? = some oj->j≠k->oj.dst=some d->o.dst≠some d
 read:∀(k:Nat) (o:Oper) (j:Nat) (oj:Oper) (d:Tmp),ops[k]? = some o->ops[j]? = some oj->j≠k->oj.dst=some d->d∈reads ops.toList o →
  (j<k->((eB ops.toList).getD k 0).testBit j=true)/\(¬j<k->((eB ops.toList).getD j 0).testBit k=true)
 ws:∀(k:Nat) (o:Oper) (j:Nat) (oj:Oper),ops[k]? = some o->ops[j]? = some oj->rG P o=true->rG P oj=true->j<k->((eB ops.toList).getD k 0).testBit j=true
theorem yA{a b:Nat}:Nat.blt a b=true↔a<b:=by
 simp[Nat.blt,zR];omega
theorem AL{a b:Nat}:Nat.beq a b=true↔a=b:=⟨dY,λh=>by subst h;simp⟩
theorem HX(h:jP P ops.toList (eB ops.toList)=true):Static P ops:=by
 have w:∀(k:Nat) (o:Oper),ops[k]? = some o->(∀e∈cj o,e<k)/\∀(j:Nat) (g:Oper),ops[j]? = some g->Dv P ops.toList (eB ops.toList) k o j g=true:=by
  intro k o r;simp only[jP,e6]at h;have:=h (o,k) (ga.2 (by rw[na];exact r));simp only[aM,e6]at this;refine⟨λe C=>yA.1 (this.1 e C),λj g t => ?_⟩;exact this.2 (g,j) (ga.2 (by rw[na];exact t))
 have z:∀(k:Nat) (o:Oper) (j:Nat) (g:Oper),ops[k]? = some o->ops[j]? = some g->j≠k->(∀d,g.dst=some d->o.dst≠some d/\(d∈reads ops.toList o →
  (if j<k then((eB ops.toList).getD k 0).testBit j else((eB ops.toList).getD j 0).testBit k)=true)) ∧
  (rG P o=true->rG P g=true->j<k->((eB ops.toList).getD k 0).testBit j=true):=by
  intro k o j g r t q;have c:=(w k o r).2 j g t;unfold Dv at c;rw[kv]at c;rcases c with c | c
  ·exact(q (AL.1 c)).elim
  ·rw[aM]at c;refine⟨?_,?_⟩
   ·intro d x;have u:=c.1;rw[x]at u;simp only[aM,kv,ku]at u;refine⟨by simpa using u.1,λy => ?_⟩;rcases u.2 with h2 | h2
    ·rw[List.contains_eq_mem]at h2;simp at h2;exact(h2 y).elim
    ·exact h2
   ·intro u h2 B;have h4:=c.2;simp only[u,h2,p7,Ed,kv,ku]at h4;rcases h4 with h4 | h4
    ·have:=yA.2 B;rw[this]at h4;cases h4
    ·exact h4
 refine⟨λk o r=>(w k o (by rw[<-na];exact r)).1,?_,?_,?_⟩
 ·intro k o j g d r t q x;exact((z k o j g r t q).1 d x).1
 ·intro k o j g d r t q x y;have:=((z k o j g r t q).1 d x).2 y;constructor
  ·intro n;rwa [af n]at this
  ·intro n;rwa [ae n]at this
 ·intro k o j g r t u h2 n;exact(z k o j g r t (by omega)).2 u h2 n
def jS(listed:Array Bool)(k:Nat):Prop:=listed.getD k false=true
structure RS(ι0:cV)(Ib R8:St)(w0:World)(ι:cV)(g:Mem)(w:World):Prop where
 agree:∀i,(i<Ib.size\/R8.size<=i)->ι i=ι0 i
 own:∀i,i<Ib.size->live (g i)->live (Ib.get i)
 hold:∀i,i<Ib.size->held (g i)->held (Ib.get i)
 ghost:∀i,i<Ib.size->ι0 i=none->g i=Ib.get i
 fresh:∀i L,Ib.size<=i->i<R8.size->ι i=some L->held (g i)->w0.heap.size<=L.b\/∃j M,j<Ib.size/\ι0 j=some M/\M.b=L.b/\live (Ib.get j)
 os:w.os=w0.os
 output:w.output=w0.output
 hsize:w0.heap.size<=w.heap.size
 keep:∀k,k<w0.heap.size->(∀i L,i<Ib.size->ι0 i=some L->live (Ib.get i)->L.b≠k)->w.heap[k]? = w0.heap[k]?
structure Inv(P:Program)(ops:Array Oper)(st:Nat->List T×St)(ι0:cV)(w0:World)(a0:Act)(listed:Array Bool)(a:Act)(w:World)(p:Nat)(ι:cV):Prop where
 Ri:listed.size=ops.size
 closed:∀(k:Nat) (o:Oper),ops.toList[k]? = some o->jS listed k->∀e∈cj o,jS listed e
 Rm:p<=ops.size
 below:∀(j:Nat) (o:Oper),ops[j]? = some o->rG P o=true->(jS listed j↔j<p)
 len:(st 0).1.length<=a.tmps.size
 defers:a.defers=a0.defers
 put:∀(t j:Nat) (o:Oper),ops[j]? = some o->o.dst=some t->jS listed j->aT ι ((st (j+1)).1.getD t .any) (a.tmps.getD t undef)
 old:∀(t:Nat),(∀(j:Nat) (o:Oper),ops[j]? = some o->o.dst=some t->¬jS listed j)->aT ι ((st 0).1.getD t .any) (a.tmps.getD t undef)
 rel:Rel ι (X P ops.toList st p) w
 ghost:∀k,k<ops.size->¬jS listed k->∀i,(st k).2.size<=i->i<(st (k+1)).2.size->ι i=none
 pend:∀q b,Aj P ops.toList st q b->¬jS listed q->X P ops.toList st p (st q).2.size=some b
 QH:RS ι0 (st 0).2 (st ops.size).2 w0 ι (X P ops.toList st p) w
variable {ι0:cV}{w0:World}{a0:Act}{listed:Array Bool}{a:Act}{w:World}{p:Nat}{ι:cV}
theorem Oc{k j:Nat}(a:k<listed.size):jS (listed.setIfInBounds k true) j↔j=k\/jS listed j:=by
 unfold jS;by_cases e:j=k
 ·subst e;simp[a]
 ·rw[getD_set_ne false (bu e)];simp[e]
theorem DX{k:Nat}{o:Oper}(h:ops[k]? = some o):ops.toList[k]? = some o:=by rw[na];exact h
theorem MA{k:Nat}{o:Oper}(h:ops.toList[k]? = some o):ops[k]? = some o:=by rw[<-na];exact h
theorem Od{k:Nat}{o:Oper}(h:ops[k]? = some o):k<ops.size:=(iZ.1 h).1
theorem Inv.slot(h:rH P aC ops.toList st)(C:Static P ops)(I:Inv P ops st ι0 w0 a0 listed a w p ι){k:Nat}{o:Oper}(E:ops[k]? = some o)(Q:¬jS listed k)(B:∀e∈cj o,jS listed e)
 {t:Nat} (S:t∈reads ops.toList o):aT ι ((st k).1.getD t .any) (a.tmps.getD t undef):=by
 have T:=Od E;have R:ops.toList.length=ops.size:=gf;have y:=pJ C.low (jS listed) I.closed;by_cases hex:∃(j:Nat) (u:Oper),ops[j]? = some u/\u.dst=some t
 ·obtain⟨j,u,z,D⟩:=hex
  have g:∀(n:Nat) (x:Oper),ops[n]? = some x->x.dst=some t->n=j:=by
   intro n x d c;by_cases e:n=j
   ·exact e
   ·exact(C.uniq j u n x t z d e c D).elim
  rcases uI j k with J | rfl | hgt
  ·have O:=(C.read k o j u t E z (by omega) D S).1 J;have H:jS listed j:=y k o j (DX E) B O
   have r:=h.l7 t (k-(j+1)) (j+1) (by omega) (λn q F G d c=>by
    have:=g n q (MA d) c;omega)
   rw[show j+1+(k-(j+1))=k from by omega]at r;rw[r];exact I.put t j u z D H
  ·have r:=h.l7 t j 0 (by omega) (λn q F G d c=>by
    have:=g n q (MA d) c;omega)
   rw[a7]at r;rw[r];exact I.old t λn q d c=>by rw[g n q d c];exact Q
  ·have O:=(C.read k o j u t E z (by omega) D S).2 (by omega)
   have N:¬jS listed j:=by
    intro H;exact Q (y j u k (DX z) (I.closed j u (DX z) H) O)
   have r:=h.l7 t k 0 (by omega) (λn q F G d c=>by
    have:=g n q (MA d) c;omega)
   rw[a7]at r;rw[r];exact I.old t λn q d c=>by rw[g n q d c];exact N
 ·have r:=h.l7 t k 0 (by omega) (λn q F G d c=>hex ⟨n,q,MA d,c⟩);rw[a7]at r;rw[r];exact I.old t λn q d c=>(hex ⟨n,q,d,c⟩).elim
theorem Dl{t:Nat}:∀{l:List Operand},Operand.tmp t∈l->t∈tmpsOf l:=by
 intro l;induction l with
 |nil=>intro h;cases h
 |cons x l c=>
  intro h;cases h with
  |head=>simp[tmpsOf]
  |tail _ h=>cases x<;>simp[tmpsOf,c h]
theorem Inv.operand(h:rH P aC ops.toList st)(d:Static P ops)(I:Inv P ops st ι0 w0 a0 listed a w p ι){k:Nat}{o:Oper}(n:ops[k]? = some o)(j:¬jS listed k)(c:∀e∈cj o,jS listed e) :
 ∀x∈o.op.operands,aT ι (rF (st k).1 x) (a.eval x):=by
 intro x r;cases x with
 |tmp t=>exact I.slot h d n j c (by simp only[reads,dP];exact .inl (Dl (by simpa using r)))
 |const v=>
  simp only[rF,Act.eval];cases q:CE v with
  |none=>trivial
  |some x=>exact qd q
 |func f=>exact⟨[],rfl,.nil⟩
 |global g=>trivial
theorem Inv.wanted(h:rH P aC ops.toList st)(f:Static P ops)(I:Inv P ops st ι0 w0 a0 listed a w p ι){k:Nat}{o:Oper}(n:ops[k]? = some o)(m:¬jS listed k)(c:∀e∈cj o,jS listed e)
 {b:Bool} (q:dB ops.toList (st k).1 o=some b):Region.wanted o (yielded ops a.tmps)=b:=by
 refine sB q λj want r d i l g=>I.slot h f n m c ?_
 simp only[reads,dP,rZ,i,DX l,g];exact .inr (by simp)
theorem Inv.place(t:Static P ops)(I:Inv P ops st ι0 w0 a0 listed a w p ι){k:Nat}{o:Oper}(r:ops[k]? = some o)(u:rG P o=true)(z:¬jS listed k)(h:∀e∈cj o,jS listed e) :
 p<=k/\(∀(j:Nat) (q:Oper),ops[j]? = some q->rG P q=true->(jS listed j↔j<k)):=by
 have g:=pJ t.low (jS listed) I.closed
 have n:p<=k:=by
  rcases b9 k p with c | hge
  ·exact(z ((I.below k o r u).2 c)).elim
  ·exact hge
 refine⟨n,λj q x d=>⟨λy=>bh ((I.below j q x d).1 y) n,λc => ?_⟩⟩;exact g k o j (DX r) h (t.ws k o j q r x u d c)
theorem Pt(t:aS P aC)(h:rH P aC ops.toList st)(I:Inv P ops st ι0 w0 a0 listed a w p ι){k:Nat}(y:k<=ops.size)(r:p<=k)
 (c:∀(j:Nat) (n:Oper),ops[j]? = some n->rG P n=true->j<k->jS listed j):X P ops.toList st p=X P ops.toList st k:=by
 have d:ops.toList.length=ops.size:=gf
 have:=Ih t h (k-p) p (by omega) (λj o u x e=>by
  cases g:rG P o with
  |false=>rfl
  |true=>
   have q:=c j o (MA e) g (by omega);have:=(I.below j o (MA e) g).1 q;omega)
 rwa [show p+(k-p)=k from by omega]at this
end
section
variable {P:Program}{aC:bc}{ops:Array Oper}{st:Nat->List T×St}
variable {ι0:cV}{w0:World}{a0:Act}{listed:Array Bool}{a:Act}{w:World}{p:Nat}{ι:cV}
theorem Lq{κ:cV}{b:List T}{a:Act}{t:Nat}{tv:T}{v:Value}(d:b.length<=a.tmps.size)(c:aT κ tv v) :
 aT κ ((ct b (some t) tv).getD t .any) ((a.put (some t) v).tmps.getD t undef):=by
 simp only[ct,Act.put];rw[vp,rX];by_cases h:t<b.length
 ·rw[af ⟨rfl,h⟩,af ⟨rfl,bh h d⟩];exact c
 ·rw[ae (λe=>h e.2)];have:b.getD t .any = .any:=by rw[dq,iS (nf h)];rfl
  rw[this];trivial
theorem xY{a:Act}{dst:Option Tmp}{t:Nat}{v:Value}(h:dst≠some t):(a.put dst v).tmps.getD t undef=a.tmps.getD t undef:=by
 cases dst with
 |none=>rfl
 |some d=>
  simp only[Act.put];rw[rX,ae (λe=>h (by rw[e.1]))]
theorem Lp(a:Act)(dst:Option Tmp)(v:Value):(a.put dst v).tmps.size=a.tmps.size:=by cases dst<;>simp[Act.put]
theorem Inv.next(h:rH P aC ops.toList st)(V:Static P ops)(I:Inv P ops st ι0 w0 a0 listed a w p ι){k:Nat}{o:Oper}(D:ops[k]? = some o)(hk:¬jS listed k)(z:∀e∈cj o,jS listed e)
 {v:Value} {tv:T} {Qu:cV} {w':World} {y:Nat} (J:(st (k+1)).1=ct (st k).1 o.dst tv) (Y:aT Qu tv v) (C:ι.le Qu) (H:y<=ops.size)
 (g:∀(j:Nat) (o:Oper),ops[j]? = some o->rG P o=true->(j=k\/jS listed j↔j<y)) (E:Rel Qu (X P ops.toList st y) w')
 (n:∀k',k'<ops.size->k'≠k->¬jS listed k'->∀i,(st k').2.size<=i->i<(st (k'+1)).2.size->Qu i=none)
 (x:∀q b,Aj P ops.toList st q b->q≠k->¬jS listed q->X P ops.toList st y (st q).2.size=some b)
 (B:RS ι0 (st 0).2 (st ops.size).2 w0 Qu (X P ops.toList st y) w'):Inv P ops st ι0 w0 a0 (listed.setIfInBounds k true) (a.put o.dst v) w' y Qu:=by
 have G:=Od D;have O:ops.toList.length=ops.size:=gf;have c:∀j,jS (listed.setIfInBounds k true) j↔j=k\/jS listed j:=λj=>Oc (by rw[I.Ri];exact G)
 refine⟨by rw[Mi];exact I.Ri,?_,H,?_,by rw[Lp];exact I.len,by rw[put_defers];exact I.defers,?_,?_,E,?_,?_,B⟩
 ·intro j r d hL e N;rw[c]at hL ⊢;rcases hL with rfl | hL
  ·rw[DX D]at d;cases d;exact .inr (z e N)
  ·exact .inr (I.closed j r d hL e N)
 ·intro j r d Z;rw[c];exact g j r d Z
 ·intro t j r d u hL;rw[c]at hL;by_cases e:j=k
  ·subst e;rw[D]at d;cases d;rw[J,u];exact Lq (by rw[h.len j (by omega)];exact I.len) Y
  ·rw[xY (V.uniq k o j r t D d e u)];exact(I.put t j r d u (hL.resolve_left e)).mono C
 ·intro t Q;rw[xY (λu=>Q k o D u ((c k).2 (.inl rfl)))];exact(I.old t λj r d u hL=>Q j r d u ((c j).2 (.inr hL))).mono C
 ·intro k' F hL i R S;rw[c]at hL;exact n k' F (λe=>hL (.inl e)) (λe=>hL (.inr e)) i R S
 ·intro q b U hL;rw[c]at hL;exact x q b U (λe=>hL (.inl e)) (λe=>hL (.inr e))
theorem Inv.quiet(J:aS P aC)(h:rH P aC ops.toList st)(B:Static P ops)(I:Inv P ops st ι0 w0 a0 listed a w p ι){k:Nat}{o:Oper}(t:ops[k]? = some o)(D:¬jS listed k)(d:∀e∈cj o,jS listed e)
 {v:Value} {tv:T} (y:(st (k+1)).1=ct (st k).1 o.dst tv) (G:aT ι tv v) (N:rG P o=false\/dB ops.toList (st k).1 o=some false) :
 ∃O,Inv P ops st ι0 w0 a0 (listed.setIfInBounds k true) (a.put o.dst v) w O ι:=by
 have u:=Od t;cases H:rG P o with
 |false=>
  refine⟨p,I.next h B t D d y G (cV.le_refl _) I.Rm ?_ I.rel (λk' g _ n=>I.ghost k' g n) (λq b g _ n=>I.pend q b g n) I.QH⟩;intro j z r c;rw[<-I.below j z r c];constructor
  ·rintro (rfl | h)
   ·rw[t]at r;cases r;rw[H]at c;cases c
   ·exact h
  ·exact .inr
 |true=>
  obtain⟨F,x⟩:=I.place B t H D d
  have C:X P ops.toList st p=X P ops.toList st (k+1):=by
   rw[Pt J h I (zT u) F (λj z r c E=>(x j z r c).2 E)];exact Ii J h (DX t) N
  refine⟨k+1,I.next h B t D d y G (cV.le_refl _) u ?_ (C ▸ I.rel) (λk' g _ n=>I.ghost k' g n) (λq b g _ n=>C ▸ I.pend q b g n) (C ▸ I.QH)⟩;intro j z r c;rw[x j z r c];omega
theorem Inv.make(C:aS P aC)(h:rH P aC ops.toList st)(Z:Static P ops)(I:Inv P ops st ι0 w0 a0 listed a w p ι){k:Nat}{o:Oper}(Q:ops[k]? = some o)(G:¬jS listed k)(x:∀e∈cj o,jS listed e)
 {b:er} {f:Nat->T} {L:Loc} {u:World} {v:Value} (U:Aj P ops.toList st k b) (J:kindOf P o.op = .A) (R:(st (k+1)).1=ct (st k).1 o.dst (f (st k).2.size)) (g:lP ι w u L b)
 (hT:aT (yj ι (st k).2.size L) (f (st k).2.size) v):Inv P ops st ι0 w0 a0 (listed.setIfInBounds k true) (a.put o.dst v) u p (yj ι (st k).2.size L):=by
 have N:=Od Q;have V:ops.toList.length=ops.size:=gf;have c:=k2 h U;have d:ι (st k).2.size=none:=I.ghost k N G _ (au _) (by rw[c];simp)
 have hX:tQ (X P ops.toList st p) (st k).2.size b=X P ops.toList st p:=by
  funext i
  by_cases e:i=(st k).2.size
  ·subst e;rw[sx,I.pend k b U G]
  ·rw[kP _ _ e]
 have y:Rel (yj ι (st k).2.size L) (X P ops.toList st p) u:=by
  have:=lH I.rel d g
  rwa [hX]at this
 have Sk:(st 0).2.size<=(st k).2.size:=h.size_le C (cc _) (by omega);have z:(st (k+1)).2.size<=(st ops.size).2.size:=h.size_le C (by omega) (by omega);rw[c]at z;simp only[St.size_push]at z;refine I.next h Z Q G x R hT (y9 L d) I.Rm ?_ y ?_ (λq b n _ r=>I.pend q b n r) ?_
 ·intro j Sl E t;rw[<-I.below j Sl E t];constructor
  ·rintro (rfl | h)
   ·rw[Q]at E;cases E;simp[rG,J]at t
   ·exact h
  ·exact .inr
 ·intro k' H Sj Y i n r;rw[gC]
  ·exact I.ghost k' H Y i n r
  ·intro e;subst e;rcases b9 k' k with O | hge
   ·have:=h.size_le C (show k'+1<=k from O) (by omega);omega
   ·have:=h.size_le C (show k+1<=k' by omega) (by omega);rw[c]at this;simp at this;omega
 ·have F:=I.QH;refine⟨?_,F.own,F.hold,F.ghost,?_,g.os.trans F.os,g.output.trans F.output,by rw[g.size];have:=F.hsize;omega,?_⟩
  ·intro i hi;rw[gC _ _ (by omega)];exact F.agree i hi
  ·intro i M n r B hh;by_cases e:i=(st k).2.size
   ·subst e;rw[bX]at B;cases B;exact .inl (by rw[g.Iz];exact F.hsize)
   ·rw[gC _ _ e]at B;exact F.fresh i M n r B hh
  ·intro S D hn;have:=F.hsize;rw[g.keep S (by omega)];exact F.keep S D hn
theorem Inv.write(R:aS P aC)(h:rH P aC ops.toList st)(hS:Static P ops)(I:Inv P ops st ι0 w0 a0 listed a w p ι){k:Nat}{o:Oper}(ho:ops[k]? = some o)(hk:¬jS listed k)(Sj:∀e∈cj o,jS listed e)
 (hW:rG P o=true):Rel ι (st k).2.get w/\kE ι (st k).2.size (st (k+1)).2.size ∧
  ∀(κ:cV) (u:World) (v:Value) (tv:T),(st (k+1)).1=ct (st k).1 o.dst tv->Ext ι (st k).2 w κ (st (k+1)).2 u->Rel κ (st (k+1)).2.get u->aT κ tv v →
   Inv P ops st ι0 w0 a0 (listed.setIfInBounds k true) (a.put o.dst v) u (k+1) κ:=by
 have Sp:=Od ho;have Sv:ops.toList.length=ops.size:=gf;obtain⟨SH,Sw⟩:=I.place hS ho hW hk Sj;have hX:X P ops.toList st p=X P ops.toList st k:=Pt R h I (zT Sp) SH (λj SK hj Sl H=>(Sw j SK hj Sl).2 H);have x:∀i,i<(st k).2.size->X P ops.toList st p i=(st k).2.get i:=λi hi=>by rw[hX];exact xa R h (by omega) hi
 have SL:=h.wf R k (by omega);have Sz:=h.wf R (k+1) (by omega);have N:∀i b,(st k).2.get i=some b->X P ops.toList st p i=some b:=λi b r=>by rw[x i (SL.lt r)];exact r
 have SB:Rel ι (st k).2.get w:=by
  refine⟨λi L b d r=>I.rel.blk i L b d (N i b r),λi j L M d D y B O=>I.rel.sep i j L M d D ?_ ?_ O,λi n vs hg=>I.rel.eb i n vs (N i _ hg)⟩
  ·cases r:(st k).2.get i with
   |none=>rw[r]at y;exact y.elim
   |some b=>rw[N i b r];rw[r]at y;exact y
  ·cases r:(st k).2.get j with
   |none=>rw[r]at B;exact B.elim
   |some b=>rw[N j b r];rw[r]at B;exact B
 have hF:kE ι (st k).2.size (st (k+1)).2.size:=λi Z h2=>I.ghost k Sp hk i Z h2
 refine⟨SB,hF,?_⟩;intro κ u v tv SJ C Sk hT;have Y:=C.le hF;have SP:(st (k+1)).2.size<=(st ops.size).2.size:=h.size_le R (by omega) (by omega);have SO:(st 0).2.size<=(st k).2.size:=h.size_le R (cc _) (by omega);have c:∀i,i<(st (k+1)).2.size->X P ops.toList st (k+1) i=(st (k+1)).2.get i:=λi hi=>xa R h (by omega) hi
 have Sn:∀i b,(st (k+1)).2.size<=i->X P ops.toList st (k+1) i=some b->∃q,k+1<=q/\Aj P ops.toList st q b/\(st q).2.size=i:=by
  intro i b hi r;by_cases hex:∃q b',Aj P ops.toList st q b'/\k+1<=q/\(st q).2.size=i
  ·obtain⟨q,b',S,hq,rfl⟩:=hex;rw[sI R h S hq]at r;cases r;exact⟨q,hq,S,rfl⟩
  ·rw[nK (by omega) (λq b' S hq e=>hex ⟨q,b',S,hq,e⟩),Sz i hi]at r;cases r
 have t:∀i,(st (k+1)).2.size<=i->X P ops.toList st (k+1) i=X P ops.toList st p i\/X P ops.toList st (k+1) i=none:=by
  intro i hi;cases r:X P ops.toList st (k+1) i with
  |none=>exact .inr rfl
  |some b=>
   obtain⟨q,hq,S,rfl⟩:=Sn i b hi r;rw[sI R h S (show p<=q by omega)];exact .inl rfl
 have G:∀i L,(st (k+1)).2.size<=i->ι i=some L->held (X P ops.toList st (k+1) i)->u.heap[L.b]? = w.heap[L.b]? := by
  intro i L hi d B
  have Sm:X P ops.toList st (k+1) i=X P ops.toList st p i:=by
   rcases t i hi with e | e
   ·exact e
   ·rw[e]at B;exact B.elim
  rw[Sm]at B
  have H:L.b<w.heap.size:=by
   cases r:X P ops.toList st p i with
   |none=>rw[r]at B;exact B.elim
   |some b=>rw[r]at B;exact(I.rel.blk i L b d r).lt B
  refine C.keep L.b H λj M hj D y => ?_
  refine I.rel.sep j i M L D d (by rw[x j hj];exact y) B ?_;have:=C.size;omega
 have z:∀i,(st (k+1)).2.size<=i->κ i=ι i:=λi hi=>C.agree i (.inr hi)
 have J:∀i j L M,i<(st (k+1)).2.size->(st (k+1)).2.size<=j->κ i=some L->ι j=some M->held ((st (k+1)).2.get i)->held (X P ops.toList st (k+1) j) →
  (live ((st (k+1)).2.get i)\/live (X P ops.toList st (k+1) j))->L.b≠M.b:=by
  intro i j L M hi hj d D Ss E Q
  have SC:X P ops.toList st (k+1) j=X P ops.toList st p j:=by
   rcases t j hj with e | e
   ·exact e
   ·rw[e]at E;exact E.elim
  rw[SC]at E Q
  have SM:M.b<w.heap.size:=by
   cases r:X P ops.toList st p j with
   |none=>rw[r]at E;exact E.elim
   |some b=>rw[r]at E;exact(I.rel.blk j M b D r).lt E
  have:=C.size;rcases b9 i (st k).2.size with hik | hik
  ·rw[C.agree i (.inl hik)]at d;rcases Q with Q | Q
   ·exact I.rel.sep i j L M d D (by rw[x i hik];exact C.own i hik Q) E (by omega)
   ·exact bu (I.rel.sep j i M L D d Q (by rw[x i hik];exact C.hold i hik Ss) (by omega))
  ·rcases C.fresh i L hik hi d Ss with SD | ⟨j',M',SE,SA,e,y⟩
   ·omega
   ·rw[<-e];exact I.rel.sep j' j M' M SA D (by rw[x j' SE];exact y) E (by omega)
 have Sy:Rel κ (X P ops.toList st (k+1)) u:=by
  constructor
  ·intro i L b d r;rcases b9 i (st (k+1)).2.size with hi | hi
   ·rw[c i hi]at r;exact Sk.blk i L b d r
   ·rw[z i hi]at d
    have Sm:X P ops.toList st p i=some b:=by
     rcases t i hi with e | e
     ·rw[<-e];exact r
     ·rw[e]at r;cases r
    have hr:=I.rel.blk i L b d Sm;cases b with
    |dead=>trivial
    |K own vs=>exact(hr.mono Y).congr (G i L hi d (by rw[r];trivial))
    |map es=>exact(hr.mono Y).congr (G i L hi d (by rw[r];trivial))
    |eb g vs=>exact(hr.mono Y).congr (G i L hi d (by rw[r];trivial))
    |mark vs=>exact(hr.mono Y).congr (G i L hi d (by rw[r];trivial))
  ·intro i j L M d D y B O;rcases b9 i (st (k+1)).2.size with hi | hi
   ·rw[c i hi]at y;rcases b9 j (st (k+1)).2.size with hj | hj
    ·rw[c j hj]at B;exact Sk.sep i j L M d D y B O
    ·rw[z j hj]at D;exact J i j L M hi hj d D y.held B (.inl y)
   ·rw[z i hi]at d;rcases b9 j (st (k+1)).2.size with hj | hj
    ·rw[c j hj]at B;exact bu (J j i M L hj hi D d B y.held (.inr y))
    ·rw[z j hj]at D
     have e1:X P ops.toList st (k+1) i=X P ops.toList st p i:=by
      rcases t i hi with e | e
      ·exact e
      ·rw[e]at y;exact y.elim
     have e2:X P ops.toList st (k+1) j=X P ops.toList st p j:=by
      rcases t j hj with e | e
      ·exact e
      ·rw[e]at B;exact B.elim
     rw[e1]at y;rw[e2]at B;exact I.rel.sep i j L M d D y B O
  ·intro i n vs hg;rcases b9 i (st (k+1)).2.size with hi | hi
   ·rw[c i hi]at hg;exact Sk.eb i n vs hg
   ·rw[z i hi];rcases t i hi with e | e
    ·rw[e]at hg;exact I.rel.eb i n vs hg
    ·rw[e]at hg;cases hg
 refine I.next h hS ho hk Sj SJ hT Y Sp ?_ Sy ?_ ?_ ?_
 ·intro j SK hj Sl;rw[Sw j SK hj Sl];omega
 ·intro k' Su O d i Z h2;rcases b9 k' k with H | hge
  ·have:=h.size_le R (show k'+1<=k from H) (by omega);rw[C.agree i (.inl (by omega))];exact I.ghost k' Su d i Z h2
  ·have:=h.size_le R (show k+1<=k' by omega) (by omega);rw[C.agree i (.inr (by omega))];exact I.ghost k' Su d i Z h2
 ·intro q b S O d;have SI:q<ops.size:=by obtain⟨o',f,SG,_⟩:=S;rw[<-Sv];exact(bq.1 SG).1
  rcases b9 q k with H | hge
  ·have Sx:=k2 h S;have Sr:=h.size_le R (show q+1<=k from H) (by omega);rw[Sx]at Sr;simp only[St.size_push]at Sr;have Z:=I.pend q b S d;rw[x _ (by omega)]at Z;have hn:ι (st q).2.size=none:=I.ghost q SI d _ (au _) (by rw[Sx];simp);rw[c _ (by have:=C.size;omega),C.ghost _ (by omega) hn];exact Z
  ·exact sI R h S (by omega)
 ·have F:=I.QH;refine⟨?_,?_,?_,?_,?_,C.os.trans F.os,C.output.trans F.output,bl F.hsize C.hsize,?_⟩
  ·intro i hi;have:=C.size;rw[C.agree i (by omega)];exact F.agree i hi
  ·intro i hi y;have:=C.size;rw[c i (by omega)]at y;have:=C.own i (by omega) y;rw[<-x i (by omega)]at this;exact F.own i hi this
  ·intro i hi y;have:=C.size;rw[c i (by omega)]at y;have:=C.hold i (by omega) y;rw[<-x i (by omega)]at this;exact F.hold i hi this
  ·intro i hi hn;have:=C.size;rw[c i (by omega),C.ghost i (by omega) (by rw[F.agree i (.inl hi)];exact hn),<-x i (by omega)];exact F.ghost i hi hn
  ·intro i L Z h2 d B;have Sr:=C.size
   have back:∀j M,j<(st k).2.size->ι j=some M->live ((st k).2.get j)->w0.heap.size<=M.b\/∃j' M',j'<(st 0).2.size/\ι0 j'=some M'/\M'.b=M.b/\live ((st 0).2.get j'):=by
    intro j M hj D y;rw[<-x j hj]at y;rcases b9 j (st 0).2.size with V | V
    ·exact .inr ⟨j,M,V,by rw[<-F.agree j (.inl V)];exact D,rfl,F.own j V y⟩
    ·exact F.fresh j M V (by omega) D y.held
   rcases b9 i (st (k+1)).2.size with hi | hi
   ·rw[c i hi]at B;rcases b9 i (st k).2.size with hik | hik
    ·rw[C.agree i (.inl hik)]at d;have:=C.hold i hik B;rw[<-x i hik]at this;exact F.fresh i L Z h2 d this
    ·rcases C.fresh i L hik hi d B with SD | ⟨j,M,hj,D,e,y⟩
     ·exact .inl (bl F.hsize SD)
     ·have:=back j M hj D y
      rwa [e]at this
   ·rw[z i hi]at d;rcases t i hi with e | e
    ·rw[e]at B;exact F.fresh i L Z h2 d B
    ·rw[e]at B;exact B.elim
  ·intro b r hn;have SN:=F.hsize;rw[C.keep b (by omega)]
   ·exact F.keep b r hn
   ·intro i L hi d y e;rw[<-x i hi]at y;rcases b9 i (st 0).2.size with U | U
    ·exact hn i L U (by rw[<-F.agree i (.inl U)];exact d) (F.own i U y) e
    ·have:=C.size;rcases F.fresh i L U (by omega) d y.held with SD | ⟨j,M,hj,D,e',SF⟩
     ·omega
     ·exact hn j M hj D SF (e'.trans e)
end
section
variable {P:Program}{aC:bc}{ops:Array Oper}{st:Nat->List T×St}
variable {ι0:cV}{w0:World}{a0:Act}{listed:Array Bool}{a:Act}{w:World}{p:Nat}{ι:cV}
theorem Dg(Q:aS P aC)(h:rH P aC ops.toList st)(hS:Static P ops)(U:rn P ops.toList (eB ops.toList) (eZ st (ops.toList.length+1))=true)
 (I:Inv P ops st ι0 w0 a0 listed a w p ι) {k:Nat} {o:Oper} (N:ops[k]? = some o) (hk:¬jS listed k) (C:∀e∈cj o,jS listed e) (G:kindOf P o.op = .L)
 (y:dB ops.toList (st k).1 o=some true) {t:T} (S:tP P o.op (rF (st k).1) (st k).2.get=some t):tP P o.op (rF (st k).1) (X P ops.toList st p)=some t:=by
 have Sj:=Od N;have R:ops.toList.length=ops.size:=gf;have u:=pJ hS.low (jS listed) I.closed
 have E:∀j,j∈wy P ops.toList.zipIdx↔∃c,ops[j]? = some c/\rG P c=true:=by
  have gen:∀(l:List (Oper×Nat)) (j:Nat),j∈wy P l↔∃c,(c,j)∈l/\rG P c=true:=by
   intro l;induction l with
   |nil=>intro j;simp[wy]
   |cons x l V=>
    intro j;obtain⟨Y,k'⟩:=x;simp only[wy];cases d:rG P Y with
    |true=>
     rw[cq,V];constructor
     ·rintro (rfl | ⟨c,h1,h2⟩)
      ·exact⟨Y,by simp,d⟩
      ·exact⟨c,by simp[h1],h2⟩
     ·rintro⟨c,h1,h2⟩;simp only[cq,jF]at h1;rcases h1 with ⟨_,rfl⟩ | h1
      ·exact .inl rfl
      ·exact .inr ⟨c,h1,h2⟩
    |false=>
     rw[V];constructor
     ·rintro⟨c,h1,h2⟩;exact⟨c,by simp[h1],h2⟩
     ·rintro⟨c,h1,h2⟩;simp only[cq,jF]at h1;rcases h1 with ⟨rfl,_⟩ | h1
      ·rw[d]at h2;cases h2
      ·exact⟨c,h1,h2⟩
  intro j;rw[gen];constructor
  ·rintro⟨c,h1,h2⟩;exact⟨c,MA (ga.1 h1),h2⟩
  ·rintro⟨c,h1,h2⟩;exact⟨c,ga.2 (DX h1),h2⟩
 let ws:=wy P ops.toList.zipIdx
 obtain⟨Sk,Z,c3⟩:=uW ws p
 have same:∀q,q<=ops.size->X P ops.toList st (canon ws q)=X P ops.toList st q:=by
  intro q hq;obtain⟨d1,d2,d3⟩:=uW ws q
  have:=Ih Q h (q-canon ws q) (canon ws q) (by omega) (λj c h1 h2 z=>by
   cases d:rG P c with
   |false=>rfl
   |true=>
    have:=d2 j ((E j).2 ⟨c,MA z,d⟩) (by omega);omega)
  rwa [show canon ws q+(q-canon ws q)=q from by omega]at this
 rw[<-same p I.Rm]
 have D:canon ws p∈0::ws.map (· + 1):=by
  rcases c3 with h0 | ⟨j,z,e⟩
  ·rw[h0];simp
  ·rw[e];simp[z]
 have O:eO ws (eB ops.toList) k (canon ws p)=true:=by
  simp only[eO,e6,aM,kv,ku];intro j z;obtain⟨c,r,B⟩:=(E j).1 z;constructor
  ·cases d:((eB ops.toList).getD k 0).testBit j with
   |false=>exact .inl rfl
   |true=>
    right;have F:=u k o j (DX N) C d;exact yA.2 (Z j z ((I.below j c r B).1 F))
  ·cases d:((eB ops.toList).getD j 0).testBit k with
   |false=>exact .inl rfl
   |true=>
    right;have J:¬jS listed j:=λF=>hk (u j c k (DX r) (I.closed j c (DX r) F) d)
    have:¬j<p:=λH=>J ((I.below j c r B).2 H)
    exact dw (by omega)
 have n:(Nat.beq (canon ws p) (canon ws k)||(match dB ops.toList ((eZ st (ops.toList.length+1)).at k).1 o with
  |some true=>decide (tP P o.op (rF ((eZ st (ops.toList.length+1)).at k).1) (Qo P ops.toList (eZ st (ops.toList.length+1)) (canon ws p))=tP P o.op (rF ((eZ st (ops.toList.length+1)).at k).1) ((eZ st (ops.toList.length+1)).at k).2.get)
  |_=>true))=true:=by
  simp only[rn,e6]at U;have h1:=U (o,k) (ga.2 (DX N));simp only[G,e6]at h1;have h2:=h1 (canon ws p) D;rw[kv]at h2;rcases h2 with h2 | h2
  ·have:eO ws (eB ops.toList) k (canon ws p)=false:=by simpa using h2
   rw[O]at this;cases this
  ·exact h2
 rw[kv]at n;rcases n with he | he
 ·rw[AL.1 he,same k (by omega)];refine La (g:=(st k).2.get) ?_ S;intro i b d;rw[xa Q h (by omega) ((h.wf Q k (by omega)).lt d)];exact d
 ·rw[r4 st (by omega),y]at he;simp only[bK]at he;rw[S]at he;exact he
def left(n:Nat)(listed:Array Bool):Nat:=(List.range n).countP λi => !listed.getD i false
theorem KM{n k:Nat}(j:k<n)(t:listed.size=n)(h:¬jS listed k):left n (listed.setIfInBounds k true)+1=left n listed:=by
 unfold left
 have gen:∀(l:List Nat),l.Nodup->k∈l->l.countP (λi => !(listed.setIfInBounds k true).getD i false)+1=l.countP λi => !listed.getD i false:=by
  intro l;induction l with
  |nil=>intro _ h;cases h
  |cons x l z=>
   intro c u;rw[o2]at c;by_cases e:x=k
   ·subst e;have q:(listed.setIfInBounds x true).getD x false=true:=by simp[t,j]
    have r:listed.getD x false=false:=by
     cases d:listed.getD x false with
     |false=>rfl
     |true=>exact(h d).elim
    rw[Ek (by simp only[q];simp),El (by simp only[r];simp)]
    congr 1
    apply List.countP_congr;intro y w;have:y≠x:=λe=>c.1 (e ▸ w)
    rw[getD_set_ne false (bu this)]
   ·have g:k∈l:=by
     cases u with
     |head=>exact(e rfl).elim
     |tail _ h=>exact h
    have:=z c.2 g;have o:(listed.setIfInBounds k true).getD x false=listed.getD x false:=getD_set_ne false (bu e);cases d:listed.getD x false with
    |true=>
     rw[Ek (by simp only[o,d];simp),Ek (by simp only[d];simp)];exact this
    |false=>
     rw[El (by simp only[o,d];simp),El (by simp only[d];simp)];omega
 exact gen _ List.nodup_range (jA.2 j)
theorem CH{n:Nat}(h:left n listed=0):∀k,k<n->jS listed k:=by
 intro k a;unfold left at h;rw[List.countP_eq_zero]at h;have:=h k (jA.2 a)
 simpa[jS]using this
theorem Hp(n:Static P ops)(t:listed.size=ops.size)(h:Region.ready .any ops listed=[]):∀k,k<ops.size->jS listed k:=by
 intro k;induction k using Nat.strongRecOn with
 |_ k r=>
  intro q;cases d:listed.getD k false with
  |true=>exact d
  |false=>
   have j:ops[k]? = some ops[k]:=F1 q
   have:k∈Region.ready .any ops listed:=by
    rw[mem_ready];refine⟨?_,ops[k],j,?_⟩
    ·simp only[rE]at d ⊢;cases g:listed[k]? with
     |none=>rw[Array.getElem?_eq_none_iff]at g;omega
     |some b=>rw[g]at d;simpa using d
    ·intro e o c;have:=n.low k _ (DX j) e.on (th.2 ⟨e,o,c,rfl⟩);exact r e.on this (by omega)
   rw[h]at this;cases this
theorem IU(H:aS P aC)(h:rH P aC ops.toList st)(C:Static P ops)(hw:rn P ops.toList (eB ops.toList) (eZ st (ops.toList.length+1))=true){Q:Exit->Act->World->Prop}
 (hQ:∀listed a w p ι,Inv P ops st ι0 w0 a0 listed a w p ι->(∀k,k<ops.size->jS listed k)->Q .normal a w) :
 ∀(fuel:Nat) (listed:Array Bool) (a:Act) (w:World) (p:Nat) (ι:cV),left ops.size listed<=fuel->Inv P ops st ι0 w0 a0 listed a w p ι->wpAny P .any ops Q fuel listed a w:=by
 have Sr:ops.toList.length=ops.size:=gf;intro fuel;induction fuel with
 |zero=>
  intro listed a w p ι Ss I;have G:=CH (listed:=listed) (n:=ops.size) (by omega);refine⟨?_,hQ listed a w p ι I G⟩;cases hr:Region.ready .any ops listed with
  |nil=>rfl
  |cons k l=>
   have:k∈Region.ready .any ops listed:=by rw[hr];simp
   rw[mem_ready]at this;obtain⟨F,o,q,_⟩:=this;have r:=G k (Od q);unfold jS at r;simp only[rE]at F r;cases S:listed[k]? with
   |none=>rw[S]at F;cases F
   |some b=>rw[S]at F r;simp at F r;rw[F]at r;cases r
 |succ fuel ih=>
  intro listed a w p ι Ss I;refine⟨λhr=>hQ listed a w p ι I (Hp C I.Ri hr),?_⟩;intro k F;rw[mem_ready]at F;obtain⟨x,o,q,Sj⟩:=F;have Sm:=Od q
  have j:¬jS listed k:=by
   intro r;unfold jS at r;simp only[rE]at x r;cases S:listed[k]? with
   |none=>rw[S]at x;cases x
   |some b=>rw[S]at x r;simp at x r;rw[x]at r;cases r
  have g:∀e∈cj o,jS listed e:=by
   intro e he;obtain⟨d,hd,X,rfl⟩:=th.1 he;exact Sj d hd X
  have Sn:=KM Sm I.Ri j
  have z:∀(V:Act) (w':World) (R:Nat) (O:cV),Inv P ops st ι0 w0 a0 (listed.setIfInBounds k true) V w' R O->wpAny P .any ops Q fuel (listed.setIfInBounds k true) V w':=
   λV w' R O J=>ih _ V w' R O (by omega) J
  have c:=h.step k o (DX q);have D:=I.operand h C q j g;unfold wpOp;rw[q];simp only;cases y:dB ops.toList (st k).1 o with
  |none=>unfold step at c;rw[y]at c;cases c
  |some b=>
   have N:=I.wanted h C q j g y;rw[N];unfold step at c;rw[y]at c;cases b with
   |false=>
    simp only[eP,cN];have e:=dQ c;obtain⟨R,J⟩:=I.quiet H h C q j g (v:=undef) (tv:=tt) (by rw[<-e]) jQ (.inr y);exact z _ _ _ _ J
   |true=>
    simp only[bY];left;simp only at c;split at c
    ·rename_i Sk;split at c
     ·rename_i t ht;have e:=dQ c;refine Lc D ht λv hv => ?_
      obtain⟨R,J⟩:=I.quiet H h C q j g (v:=v) (tv:=t) (by rw[<-e]) hv (.inl (by simp[rG,Sk]));exact z _ _ _ _ J
     ·cases c
    ·rename_i U;split at c
     ·rename_i t ht;have e:=dQ c;have E:=Dg H h C hw I q j g U y ht;refine Lb I.rel D E λv hv => ?_
      obtain⟨R,J⟩:=I.quiet H h C q j g (v:=v) (tv:=t) (by rw[<-e]) hv (.inl (by simp[rG,U]));exact z _ _ _ _ J
     ·cases c
    ·rename_i T;split at c
     ·rename_i b f X;have e:=dQ c;have hA:Aj P ops.toList st k b:=⟨o,f,DX q,T,y,X⟩;refine K9 (w:=w) D X λL u v hN Z => ?_
      exact z _ _ _ _ (I.make H h C q j g hA T (by rw[<-e]) hN (Z _))
     ·cases c
    ·rename_i Sl;split at c
     ·rename_i t τ Sp;have e:=dQ c;obtain⟨Y,hF,B⟩:=I.write H h C q j g (by simp[rG,Sl]);have e2:(st (k+1)).2=τ:=(by rw[<-e]);rw[e2]at hF B;refine E7 H Y (h.wf H k (by omega)) hF D Sp λκ u v hE hR Z => ?_
      exact z _ _ _ _ (B κ u v t (by rw[<-e]) hE hR Z)
     ·cases c
theorem B5(J:aS P aC){id:Nat}{Q:Exit->Act->World->Prop}{env env':List T}{σ τ:St}
 (B:um P aC ops.toList (env,σ)=some (env',τ)) (hE:jG ι env a.tmps) (hR:Rel ι σ.get w) (Sz:σ.wf) (Sv:kE ι σ.size τ.size)
 (hK:∀κ u a',a'.defers=a.defers->jG κ env' a'.tmps->Ext ι σ w κ τ u->Rel κ τ.get u->Q .normal a' u):(Code.region id ops true).wp P Q a w:=by
 have Sk:ops.toList.length=ops.size:=gf;unfold um at B;split at B
 ·rename_i S;rw[aM]at S;have hS:=HX S.2;obtain⟨st,h0,Sy,hn,hw⟩:=OV ops.toList 0 (λ_=>(env,σ)) (env,σ) (env',τ) (by simp) (cc _) rfl (λj o hj _=>by omega) B;have N:st 0=(env,σ):=h0 0 (au _);have h:rH P aC ops.toList st:=⟨Sy,by rw[N];exact Sz⟩;rw[Sk]at hn;have e1:(st 0).1=env:=by rw[N]
  have Z:(st 0).2=σ:=by rw[N]
  have e3:(st ops.size).1=env':=by rw[hn]
  have V:(st ops.size).2=τ:=by rw[hn]
  have Sm:∀j,¬jS (Array.replicate ops.size false) j:=by
   intro j c;unfold jS at c;simp only[rE]at c;cases S:(Array.replicate ops.size false)[j]? with
   |none=>rw[S]at c;cases c
   |some b=>
    rw[S]at c;rw[Mh]at S;split at S
    ·cases S;cases c
    ·cases S
  refine wp_region_any S.1 ?_;have Sl:Rel ι σ.get { w with drawn:=w.drawn+1 }:=hR.heap rfl;refine IU J h hS hw (ι0:=ι) (w0:=w) (a0:=a) ?_ ops.size _ a _ 0 ι ?_ ?_
  ·intro listed a' u p κ I Sj
   have Ss:X P ops.toList st p=X P ops.toList st ops.size:=by
    refine Pt J h I (au _) I.Rm λj Sr hj _ Su=>Sj j Su
   have z:∀i b,τ.get i=some b->X P ops.toList st p i=some b:=by
    intro i b r;rw[Ss,xa J h (by omega) (by rw[V];exact(V ▸ h.wf J ops.size (by omega)).lt r),V];exact r
   have g:∀i,i<τ.size->X P ops.toList st p i=τ.get i:=by
    intro i hi;rw[Ss,xa J h (by omega) (by rw[V];exact hi),V]
   have O:σ.size<=τ.size:=by
    have:=h.size_le J (cc ops.size) (by omega)
    rwa [Z,V]at this
   have F:=I.QH;rw[Z,V]at F;refine hK κ u a' I.defers ?_ ?_ ?_
   ·refine⟨by rw[<-e3,h.len ops.size (by omega)];exact I.len,λt => ?_⟩;rw[<-e3];by_cases hex:∃(j:Nat) (Sr:Oper),ops[j]? = some Sr/\Sr.dst=some t
    ·obtain⟨j,Sr,hj,hd⟩:=hex;have Sw:=Od hj
     have es:=h.l7 t (ops.size-(j+1)) (j+1) (by omega) (λj' o' Y R G E=>by
      have:j'=j:=by
       by_cases e:j'=j
       ·exact e
       ·exact(hS.uniq j Sr j' o' t hj (MA G) e E hd).elim
      omega)
     rw[show j+1+(ops.size-(j+1))=ops.size from by omega]at es;rw[es];exact I.put t j Sr hj hd (Sj j Sw)
    ·have es:=h.l7 t ops.size 0 (by omega) (λj' o' Y R G E=>hex ⟨j',o',MA G,E⟩);rw[a7]at es;rw[es];exact I.old t λj' o' G E=>(hex ⟨j',o',G,E⟩).elim
   ·refine⟨O,F.agree,?_,?_,?_,?_,F.os,F.output,F.hsize,F.keep⟩
    ·intro i hi d;rw[<-g i (by omega)]at d;exact F.own i hi d
    ·intro i hi d;rw[<-g i (by omega)]at d;exact F.hold i hi d
    ·intro i hi Sx;rw[<-g i (by omega)];exact F.ghost i hi Sx
    ·intro i L Y R c C;rw[<-g i R]at C;exact F.fresh i L Y R c C
   ·refine⟨λi L b c r=>I.rel.blk i L b c (z i b r),λi j L M c hM d C H=>I.rel.sep i j L M c hM ?_ ?_ H,λi n vs hg=>I.rel.eb i n vs (z i _ hg)⟩
    ·cases r:τ.get i with
     |none=>rw[r]at d;exact d.elim
     |some b=>rw[z i b r];rw[r]at d;exact d
    ·cases r:τ.get j with
     |none=>rw[r]at C;exact C.elim
     |some b=>rw[z j b r];rw[r]at C;exact C
  ·unfold left;have:=List.countP_le_length (p:=λi => !(Array.replicate ops.size false).getD i false) (l:=List.range ops.size)
   rwa [List.length_range]at this
  ·have x:∀i,i<σ.size->X P ops.toList st 0 i=σ.get i:=by
    intro i hi;rw[xa J h (cc _) (by rw[Z];exact hi),Z]
   have O:∀k,k<=ops.size->σ.size<=(st k).2.size/\(st k).2.size<=τ.size:=by
    intro k hk;have Y:=h.size_le J (cc k) (by omega);have R:=h.size_le J hk (by omega);rw[Z]at Y;rw[V]at R;exact⟨Y,R⟩
   have y:∀i,σ.size<=i->X P ops.toList st 0 i≠none->ι i=none:=by
    intro i hi H;by_cases hex:∃q U,Aj P ops.toList st q U/\0<=q/\(st q).2.size=i
    ·obtain⟨q,U,D,_,rfl⟩:=hex;have hq:q<ops.size:=(by obtain⟨o',f,Sn,_⟩:=D;rw[<-Sk];exact(bq.1 Sn).1);have:=O (q+1) hq;rw[k2 h D]at this;simp only[St.size_push]at this;exact Sv _ hi (by omega)
    ·exfalso;apply H;rw[nK (cc _) (λq U D hq e=>hex ⟨q,U,D,hq,e⟩),Z,Sz i hi]
   have Sp:Rel ι (X P ops.toList st 0) { w with drawn:=w.drawn+1 }:=by
    constructor
    ·intro i L b c r;rcases b9 i σ.size with hi | hi
     ·rw[x i hi]at r;exact Sl.blk i L b c r
     ·rw[y i hi (by rw[r];simp)]at c;cases c
    ·intro i j L M c hM d C H;rcases b9 i σ.size with hi | hi
     ·rw[x i hi]at d;rcases b9 j σ.size with hj | hj
      ·rw[x j hj]at C;exact Sl.sep i j L M c hM d C H
      ·rw[y j hj (by intro e;rw[e]at C;exact C.elim)]at hM;cases hM
     ·rw[y i hi (by intro e;rw[e]at d;exact d.elim)]at c;cases c
    ·intro i n vs hg;rcases b9 i σ.size with hi | hi
     ·rw[x i hi]at hg;exact Sl.eb i n vs hg
     ·exfalso;by_cases hex:∃q U,Aj P ops.toList st q U/\0<=q/\(st q).2.size=i
      ·obtain⟨q,U,D,_,rfl⟩:=hex;rw[sI J h D (cc _)]at hg;cases hg;obtain⟨o',f,_,_,_,Sn⟩:=D;exact K8 Sn
      ·rw[nK (cc _) (λq U D hq e=>hex ⟨q,U,D,hq,e⟩),Z,Sz i hi]at hg;cases hg
   refine⟨by simp,λk o _ c=>(Sm k c).elim,cc _,λj o hj hW=>⟨λc=>(Sm j c).elim,λSu=>by omega⟩,by rw[e1];exact hE.len,rfl,
    λt j o _ _ c=>(Sm j c).elim,λt _=>by rw[e1];exact hE.rel t,Sp,?_,?_,?_⟩
   ·intro k hk _ i Y R;have:=(O k (by omega)).1;have:=(O (k+1) hk).2;exact Sv i (by omega) (by omega)
   ·intro q b D _;exact sI J h D (cc _)
   ·rw[Z,V];refine⟨λ_ _=>rfl,λi hi d=>by rwa [x i hi]at d,λi hi d=>by rwa [x i hi]at d,λi hi _=>x i hi,?_,rfl,rfl,au _,λ_ _ _=>rfl⟩;intro i L Y R c _;rw[Sv i Y R]at c;cases c
 ·cases B
end
inductive Out where
 |normal (env:List T)
 |exit (id:Nat) (Qe:List T)
 |ret (r:T)
def QW(s:Nat):Operand->Nat
 | .tmp t=>s ||| 2 ^ t
 |_=>s
def RQ(s:Nat)(l:List Operand):Nat:=l.foldl QW s
def clear(s t:Nat):Nat:=match s.testBit t with
 |true=>s ^^^ 2 ^ t
 |false=>s
def E2(ops:List Oper):List Oper->Nat->Nat
 | [],s=>s
 |o::r,s=>
  let s:=E2 ops r s
  let s:=match o.dst with | some d=>clear s d | none=>s
  let s:=RQ s o.op.operands.toList
  (rZ ops o).foldl (λs t=>s ||| 2 ^ t) s
def ir(rets:Nat):Code->(Nat->Nat)->Nat->Nat
 | .region _ ops _,_,lo=>E2 ops.toList ops.toList lo
 | .seq a b,ctx,lo=>ir rets a ctx (ir rets b ctx lo)
 | .cond c a b,ctx,lo=>QW (ir rets a ctx lo ||| ir rets b ctx lo) c
 | .block id c,ctx,lo=>ir rets c (λi=>if i=id then lo else ctx i) lo
 | .loop c,ctx,_=>ir rets c ctx (ir rets c ctx (ir rets c ctx 0))
 | .scope c,ctx,lo=>ir rets c ctx lo
 | .exit id,ctx,_=>ctx id
 | .ret,_,_=>rets
 |_,_,lo=>lo
def fW(c:List ResultVar):Nat:=c.foldl (λs r=>match r with | .tmp t=>s ||| 2 ^ t | .cell a _=>s ||| 2 ^ a) 0
def ends:Code->Bool
 | .seq a b=>ends a&&ends b
 | .cond _ a b=>ends a||ends b
 | .loop _=>false
 | .exit _=>false
 | .ret=>false
 | .scope c=>ends c
 |_=>true
def cf(n s:Nat):List Nat:=(List.range n).filter λi=>s.testBit i
def proj(keep:List Nat)(a:List T):List T:=keep.map λi=>a.getD i .any
def eC(c:List T):Nat->Nat->List Nat->Nat->List T
 | 0,_,_,_=>[]
 |n+1,i,[],j => .any::eC c n (i+1) [] j
 |n+1,i,k::ks,j=>match Nat.beq k i with
  |true=>c.getD j .any::eC c n (i+1) ks (j+1)
  |false => .any::eC c n (i+1) (k::ks) j
def place(n:Nat)(keep:List Nat)(a:List T):List T:=eC a n 0 keep 0
inductive JO where
 |normal (Qe:List T)
 |exit (id:Nat) (Qe:List T)
 |ret (r:T)
def loops(f:List T->St->Option (JO×St)):Nat->List T->St->Option (JO×St)
 | 0,_,_=>none
 |n+1,d,σ=>match f d σ with
  |none=>none
  |some (.normal c,e)=>loops f n c e
  |some (.exit i v,e)=>some (.exit i v,e)
  |some (.ret r,e)=>some (.ret r,e)
def O2(keep:List Nat)(o:Out)(c:St):Option (JO×St):=
 match o with
 | .normal e=>some (.normal (proj keep e),c)
 | .exit i v=>some (.exit i v,c)
 | .ret r=>some (.ret r,c)
def pg{R:Type}(n:Nat)(keep:List Nat)(K:Out->St->Option R)(x:Option (JO×St)):Option R:=
 match x with
 |none=>none
 |some (.normal v,c)=>K (.normal (place n keep v)) c
 |some (.exit i v,c)=>K (.exit i v) c
 |some (.ret r,c)=>K (.ret r) c
def PC{R:Type}(c:T)(a b:Option R):Option R:=
 match c with
 | .v (.s (.bool true))=>a
 | .v (.s (.bool false))=>b
 |_=>none
def gT(g:Option Bool)(x:Option T):Option T:=match g with
 |none=>none
 |some false=>some tt
 |some true=>x
def gS(g:Option Bool)(σ:St)(x:Option (T×St)):Option (T×St):=match g with
 |none=>none
 |some false=>some (tt,σ)
 |some true=>x
def aE(σ:St)(x:Option (er×(Nat->T))):Option (T×St):=match x with
 |some (b,f)=>some (f σ.size,σ.push b)
 |none=>none
def thn{α R:Type}(x:Option α)(K:α->Option R):Option R:=match x with
 |some a=>K a
 |none=>none
def O1{R:Type}(x:Option (T×St))(K:T->St->Option R):Option R:=match x with
 |some (t,c)=>K t c
 |none=>none
def q5{R:Type}(P:Program)(aC:bc)(ops:List Oper)(o:Oper)(s:List T×St)(K:List T×St->Option R):Option R:=
 match kindOf P o.op with
 | .P=>thn (gT (dB ops s.1 o) (qP P o.op (rF s.1))) λt=>K (ct s.1 o.dst t,s.2)
 | .L=>thn (gT (dB ops s.1 o) (tP P o.op (rF s.1) s.2.get)) λt=>K (ct s.1 o.dst t,s.2)
 | .A=>O1 (gS (dB ops s.1 o) s.2 (aE s.2 (zk P o.op (rF s.1)))) λt c=>K (ct s.1 o.dst t,c)
 | .W=>O1 (gS (dB ops s.1 o) s.2 (BM P aC o.op (rF s.1) s.2)) λt c=>K (ct s.1 o.dst t,c)
theorem wv{R:Type}{P:Program}{aC:bc}{ops:List Oper}{o:Oper}{s:List T×St}{K:List T×St->Option R}{r:R}(h:q5 P aC ops o s K=some r) :
 ∃u,step P aC ops o s=some u/\K u=some r:=by
 have q:∀(g:Option Bool) (x:Option T) (K:T->Option R),thn (gT g x) K=some r->∃t,K t=some r/\((g=some false/\t=tt)\/(g=some true/\x=some t)):=by
  intro g x K h;cases g with
  |none=>cases h
  |some b=>cases b with
   |false=>exact⟨_,h,.inl ⟨rfl,rfl⟩⟩
   |true=>cases x with
    |none=>cases h
    |some t=>exact⟨t,h,.inr ⟨rfl,rfl⟩⟩
 have n:∀(g:Option Bool) (σ:St) (x:Option (T×St)) (K:T->St->Option R),O1 (gS g σ x) K=some r->∃t k,K t k=some r/\((g=some false/\t=tt/\k=σ)\/(g=some true/\x=some (t,k))):=by
  intro g σ x K h;cases g with
  |none=>cases h
  |some b=>cases b with
   |false=>exact⟨_,_,h,.inl ⟨rfl,rfl,rfl⟩⟩
   |true=>cases x with
    |none=>cases h
    |some t=>exact⟨t.1,t.2,h,.inr ⟨rfl,rfl⟩⟩
 unfold q5 at h;unfold step;split at h
 ·rename_i j;obtain⟨t,d,⟨c,rfl⟩ | ⟨c,e⟩⟩:=q _ _ _ h
  ·exact⟨_,by simp only[c],d⟩
  ·exact⟨_,by simp only[c,j,e],d⟩
 ·rename_i j;obtain⟨t,d,⟨c,rfl⟩ | ⟨c,e⟩⟩:=q _ _ _ h
  ·exact⟨_,by simp only[c],d⟩
  ·exact⟨_,by simp only[c,j,e],d⟩
 ·rename_i j;obtain⟨t,k,d,⟨c,rfl,rfl⟩ | ⟨c,e⟩⟩:=n _ _ _ _ h
  ·exact⟨_,by simp only[c],d⟩
  ·unfold aE at e;split at e
   ·rename_i w;cases e;exact⟨_,by simp only[c,j,w],d⟩
   ·cases e
 ·rename_i j;obtain⟨t,k,d,⟨c,rfl,rfl⟩ | ⟨c,e⟩⟩:=n _ _ _ _ h
  ·exact⟨_,by simp only[c],d⟩
  ·exact⟨_,by simp only[c,j,e],d⟩
def runK{R:Type}(P:Program)(aC:bc)(ops:List Oper):List Oper->List T×St->(List T×St->Option R)->Option R
 | [],s,K=>K s
 |o::r,s,K=>q5 P aC ops o s λc=>runK P aC ops r c K
def Rv{R:Type}(b:Bool)(x:Option R):Option R:=match b with
 |true=>x
 |false=>none
def wh{R:Type}(P:Program)(aC:bc)(ops:List Oper)(ms:List Nat):List Oper->mh->List T×St->(List T×St->Option R)->Option R
 | [],h,s,K=>Rv (rn P ops ms (h++[s])) (K s)
 |o::r,h,s,K=>q5 P aC ops o s λc=>wh P aC ops ms r (h++[s]) c K
def fI(P:Program)(c:List T)(g:Mem):List ResultVar->Option (List T)
 | []=>some []
 | .tmp t::r=>match fI P c g r with
   |some l=>some (c.getD t .any::l)
   |none=>none
 | .cell a t::r=>match fy P t with
   |some true=>match dH P t with
    |some n=>match ay n (c.getD a .any) g,fI P c g r with
     |some x,some l=>some (x::l)
     |_,_=>none
    |none=>none
   |some false=>match aa (c.getD a .any) g,fI P c g r with
    |some x,some l=>some (x::l)
    |_,_=>none
   |none=>none
def a8:List T->Option (List V)
 | []=>some []
 | .v x::r=>match a8 r with
   |some l=>some (x::l)
   |none=>none
 |_::_=>none
def aD:List T->Option T
 | [x]=>some x
 |l=>match a8 l with
  |some vs=>some (.c6 vs)
  |none=>none
def exec{R:Type}(P:Program)(aC:bc)(rets:List ResultVar)(N:Nat):Code->(Nat->Nat)->Nat->List T->St->(Out->St->Option R)->Option R
 | .skip,_,_,d,σ,K=>K (.normal d) σ
 | .label _,_,_,d,σ,K=>K (.normal d) σ
 | .region _ ops draw,_,_,d,σ,K=>match draw with
   |false=>runK P aC ops.toList ops.toList (d,σ) λs=>K (.normal s.1) s.2
   |true=>match P.follows .mixedOrders&&jP P ops.toList (eB ops.toList)with
    |true=>wh P aC ops.toList (eB ops.toList) ops.toList [] (d,σ) λs=>K (.normal s.1) s.2
    |false=>none
 | .seq a b,ctx,lo,d,σ,K=>exec P aC rets N a ctx (ir (fW rets) b ctx lo) d σ λo g=>match o with
   | .normal h=>exec P aC rets N b ctx lo h g K
   | .exit i v=>K (.exit i v) g
   | .ret r=>K (.ret r) g
 | .cond c a b,ctx,lo,d,σ,K=>match ends a&&ends b with
   |true=>pg d.length (cf d.length lo) K (PC (rF d c) (exec P aC rets N a ctx lo d σ (O2 (cf d.length lo))) (exec P aC rets N b ctx lo d σ (O2 (cf d.length lo))))
   |false=>PC (rF d c) (exec P aC rets N a ctx lo d σ K) (exec P aC rets N b ctx lo d σ K)
 | .block id c,ctx,lo,d,σ,K=>
   pg d.length (cf d.length lo) K (exec P aC rets N c (λi=>if i=id then lo else ctx i) lo d σ λo g=>match o with
    | .normal e=>some (.normal (proj (cf d.length lo) e),g)
    | .exit i v=>if i=id then some (.normal v,g)else some (.exit i v,g)
    | .ret r=>some (.ret r,g))
 | .loop c,ctx,lo,d,σ,K=>
   let keep:=cf d.length (ir (fW rets) (.loop c) ctx lo)
   pg d.length [] K (loops (λj g=>exec P aC rets N c ctx (ir (fW rets) (.loop c) ctx lo) (place d.length keep j) g (O2 keep)) N (proj keep d) σ)
 | .scope c,ctx,lo,d,σ,K=>exec P aC rets N c ctx lo d σ K
 | .exit id,ctx,_,d,σ,K=>K (.exit id (proj (cf d.length (ctx id)) d)) σ
 | .ret,_,_,d,σ,K=>match fI P d σ.get rets with
   |some l=>match aD l with
    |some r=>K (.ret r) σ
    |none=>none
   |none=>none
 |_,_,_,_,_,_=>none
def body(P:Program)(aC:bc)(N:Nat)(f:FuncId)(args:List T)(σ:St):Option (T×St):=
 match P.funcs[f]? with
 |none=>none
 |some fn=>match fn.body with
  |none=>none
  |some c=>if args.length<=fn.ntmps then
   exec P aC fn.results.toList N c (λ_=>0) 0 (args++List.replicate (fn.ntmps-args.length) tt) σ λo e=>match o with
    | .ret r=>some (r,e)
    | .normal d=>match fI P d e.get fn.results.toList with
      |some l=>match aD l with
       |some r=>some (r,e)
       |none=>none
      |none=>none
    | .exit _ _=>none
   else none
section
variable {P:Program}{aC:bc}
theorem iy(c:List T):∀(n i:Nat) (ks:List Nat) (j:Nat),(eC c n i ks j).length=n:=by
 intro n;induction n with
 |zero=>intro i ks j;rfl
 |succ n d=>
  intro i ks j;cases ks with
  |nil=>simp[eC,d]
  |cons k ks=>
   simp only[eC];split<;>simp[d]
theorem lF(c:List T):∀(n i:Nat) (ks:List Nat) (j t:Nat),(eC c n i ks j).getD t .any = .any\/∃m,ks[m]? = some (i+t)/\(eC c n i ks j).getD t .any=c.getD (j+m) .any:=by
 intro n;induction n with
 |zero=>intro i ks j t;left;simp[eC]
 |succ n o=>
  intro i ks j t;cases ks with
  |nil=>
   simp only[eC];cases t with
   |zero=>left;rfl
   |succ t=>
    rcases o (i+1) [] j t with h | ⟨m,h,_⟩
    ·left;simpa using h
    ·simp at h
  |cons k ks=>
   simp only[eC];cases q:Nat.beq k i with
   |true=>
    have g:k=i:=dY q;cases t with
    |zero=>right;exact⟨0,by simp[g],by simp⟩
    |succ t=>
     rcases o (i+1) ks (j+1) t with h | ⟨m,d,e⟩
     ·left;simpa using h
     ·right;refine⟨m+1,by simp only[p9];rw[d];congr 1;omega,?_⟩;simp only[gi];rw[e];congr 1;omega
   |false=>
    cases t with
    |zero=>left;rfl
    |succ t=>
     rcases o (i+1) (k::ks) j t with h | ⟨m,d,e⟩
     ·left;simpa using h
     ·right;refine⟨m,by rw[d];congr 1;omega,?_⟩;simp only[gi];exact e
theorem mN{κ:cV}{n:Nat}{keep:List Nat}{c:List T}{tmps:Array Value}(h:jG κ c tmps)(j:n=c.length):jG κ (place n keep (proj keep c)) tmps:=by
 subst j;refine⟨by rw[place,iy];exact h.len,λt => ?_⟩;unfold place;rcases lF (proj keep c) c.length 0 keep 0 t with e | ⟨m,d,g⟩
 ·rw[e];trivial
 ·rw[g]
  have:(proj keep c).getD (0+m) .any=c.getD t .any:=by
   rw[a7]at d ⊢;rw[dq,proj,cL,d];rfl
  rw[this];exact h.rel t
theorem HN{R:Type}{ops:List Oper}:∀(l:List Oper) (s:List T×St) (K':List T×St->Option R) (r:R),runK P aC ops l s K'=some r->∃c,kj P aC ops l s=some c/\K' c=some r:=by
 intro l;induction l with
 |nil=>intro s K' r h;exact⟨s,rfl,h⟩
 |cons o l j=>
  intro s K' r h;simp only[runK]at h;obtain⟨k,d,h⟩:=wv h;obtain⟨c,e,g⟩:=j k K' r h;exact⟨c,by simp only[kj,d,e],g⟩
theorem DP{R:Type}{ops:List Oper}{ms:List Nat}:∀(l:List Oper) (c:mh) (s:List T×St) (K':List T×St->Option R) (r:R),wh P aC ops ms l c s K'=some r →
 ∃s',Ck P aC ops ms l c s=some s'/\K' s'=some r/\kj P aC ops l s=some s':=by
 intro l;induction l with
 |nil=>
  intro c s K' r h;simp only[wh]at h;unfold Rv at h;split at h
  ·rename_i k;exact⟨s,by simp only[Ck,k,bY],h,rfl⟩
  ·cases h
 |cons o l n=>
  intro c s K' r h;simp only[wh]at h;obtain⟨q,d,h⟩:=wv h;obtain⟨s',e,g,j⟩:=n _ q K' r h;exact⟨s',by simp only[Ck,d,e],g,by simp only[kj,d,j]⟩
theorem wi{ops:List Oper}:∀(l:List Oper) (s c:List T×St),kj P aC ops l s=some c->c.1.length=s.1.length:=by
 intro l;induction l with
 |nil=>intro s c h;cases h;rfl
 |cons o l g=>
  intro s c h;simp only[kj]at h;split at h
  ·rename_i j d;obtain⟨v,e⟩:=wx d;rw[g j c h,e,BZ]
  ·cases h
def Ig(P:Program)(rets:Array ResultVar)(κ:cV)(ctx:Nat->Nat)(n:Nat)(o:Out)(e:Exit)(a:Act)(u:World):Prop:=
 match o with
 | .normal c=>e = .normal/\jG κ c a.tmps/\c.length=n
 | .exit i v=>e = .exit i/\jG κ (place n (cf n (ctx i)) v) a.tmps
 | .ret r=>e = .ret/\∃v,(∀fn:Func,fn.results=rets->(results fn a.tmps).run P u = .ok v u)/\aT κ r v
theorem B7{κ:cV}{q:List T}{c:Array Value}{g:Mem}{u:World}(I:jG κ q c)(J:Rel κ g u):∀(D:List ResultVar) (l:List T),fI P q g D=some l →
 ∃vs:List Value,(D.mapM λr=>(match r with | .tmp t=>pure (c.getD t undef) | .cell a t=>do loadVar t (<-asAddr (c.getD a undef)):Sem Value)).run P u = .ok vs u/\bC (aT κ) l vs:=by
 intro D;induction D with
 |nil=>intro l h;cases h;exact⟨[],by simp[run_pure],.nil⟩
 |cons r D G=>
  intro l h;cases r with
  |tmp t=>
   simp only[fI]at h;split at h
   ·rename_i C w;cases h;obtain⟨vs,y,z⟩:=G C w;exact⟨c.getD t undef::vs,by simp only[uA,run_bind,run_pure,y],.cons (I.rel t) z⟩
   ·cases h
  |cell a t=>
   simp only[fI]at h;have k:=I.rel a;split at h
   ·rename_i E;split at h
    ·rename_i n O;split at h
     ·rename_i x C d w;cases h;obtain⟨v,B,H⟩:=xG (P:=P) (t:=t) E O J k d;obtain⟨vs,y,z⟩:=G C w;refine⟨v::vs,?_,.cons H z⟩
      have j:(do loadVar t (<-asAddr (c.getD a undef)):Sem Value).run P u = .ok v u:=by
       unfold ay at d;split at d
       ·rename_i i o F;rw[F]at k;obtain⟨L,N,e⟩:=k;rw[e]at B ⊢;exact B
       ·cases d
      simp only[run_bind]at j;simp only[uA,run_bind,j,run_pure,y]
     ·cases h
    ·cases h
   ·rename_i E;split at h
    ·rename_i x C d w;cases h;obtain⟨v,B,H⟩:=xE (P:=P) (t:=t) E J k d;obtain⟨vs,y,z⟩:=G C w;refine⟨v::vs,?_,.cons H z⟩
     have j:(do loadVar t (<-asAddr (c.getD a undef)):Sem Value).run P u = .ok v u:=by
      unfold aa at d;split at d
      ·rename_i i o F;rw[F]at k;obtain⟨L,N,e⟩:=k;rw[e]at B ⊢;exact B
      ·cases d
     simp only[run_bind]at j;simp only[uA,run_bind,j,run_pure,y]
    ·cases h
   ·cases h
theorem Iu{κ:cV}:∀{l:List T} {m:List V} {vs:List Value},a8 l=some m->bC (aT κ) l vs->bC (cz κ) m vs:=by
 intro l;induction l with
 |nil=>intro m vs h k;cases h;cases k;exact .nil
 |cons x l e=>
  intro m vs h k;cases k with
  |cons a k=>
   unfold a8 at h;split at h
   ·rename_i c;cases c
   ·rename_i y r c;cases c;split at h
    ·rename_i g d;cases h;exact .cons a (e d k)
    ·cases h
   ·cases h
theorem tB{κ:cV}{o:List T}{c:Array Value}{g:Mem}{u:World}(D:jG κ o c)(E:Rel κ g u){rets:Array ResultVar}{l:List T}{r:T}(F:fI P o g rets.toList=some l)(n:aD l=some r) :
 ∃v,(∀fn:Func,fn.results=rets->(results fn c).run P u = .ok v u)/\aT κ r v:=by
 obtain⟨vs,C,w⟩:=B7 D E rets.toList l F
 have q:∀fn:Func,fn.results=rets->(fn.results.mapM λr=>(match r with | .tmp t=>pure (c.getD t undef) | .cell a t=>do loadVar t (<-asAddr (c.getD a undef)):Sem Value)).run P u = .ok vs.toArray u:=by
  intro fn d;rw[d,<-iW (xs:=rets),Fv];show((Functor.map _ _:Sem _)).run P u=_
  rw[map_eq_pure_bind,run_bind,C];rfl
 have k:∀fn:Func,fn.results=rets->(results fn c).run P u = .ok (if h:vs.toArray.size=1 then vs.toArray[0]else .tuple vs.toArray) u:=by
  intro fn d
  have B:(results fn c).run P u=(do
   let vs <-fn.results.mapM λr=>(match r with | .tmp t=>pure (c.getD t undef) | .cell a t=>do loadVar t (<-asAddr (c.getD a undef)):Sem Value)
   pure (if h:vs.size=1 then vs[0]else .tuple vs):Sem Value).run P u:=rfl
  rw[B,run_bind,q fn d];rfl
 unfold aD at n;split at n
 ·rename_i x;cases n;cases w with
  | @cons _ v _ vs I H=>
    cases H;refine⟨v,λfn d => ?_,I⟩;rw[k fn d];rfl
 ·rename_i J z;split at n
  ·rename_i m G;cases n;refine⟨.tuple vs.toArray,λfn d => ?_,vs,rfl,Iu G w⟩;rw[k fn d];have j:=aP w
   have:¬vs.toArray.size=1:=by
    intro e;simp only[FK]at e;rw[e]at j;cases l with
    |nil=>simp at j
    |cons x l=>cases l with
     |nil=>exact z x rfl
     |cons y l=>simp at j
   rw[dif_neg this]
  ·cases n
theorem AO{R:Type}{c:T}{a b:Option R}{r:R}(h:PC c a b=some r):(c=B true/\a=some r)\/(c=B false/\b=some r):=by
 unfold PC at h;split at h
 ·exact .inl ⟨rfl,h⟩
 ·exact .inr ⟨rfl,h⟩
 ·cases h
end
section
variable {P:Program}{aC:bc}
def Good(P:Program)(rets:Array ResultVar)(c:Code)(ctx:Nat->Nat)(b:List T)(σ:St)(o:Out)(d:St):Prop:=
 d.wf/\σ.size<=d.size/\∀(ι:cV) (a:Act) (w:World),jG ι b a.tmps->Rel ι σ.get w->kE ι σ.size d.size →
  ∀(Q:Exit->Act->World->Prop),(∀e f u κ,f.defers=a.defers->Ext ι σ w κ d u->Rel κ d.get u->Ig P rets κ ctx b.length o e f u->Q e f u)->c.wp P Q a w
def MC(P:Program)(rets:Array ResultVar)(κ:cV)(ctx:Nat->Nat)(n:Nat)(keep:List Nat)(o:JO)(e:Exit)(a:Act)(u:World):Prop:=
 match o with
 | .normal v=>e = .normal/\jG κ (place n keep v) a.tmps
 | .exit i v=>Ig P rets κ ctx n (.exit i v) e a u
 | .ret r=>Ig P rets κ ctx n (.ret r) e a u
theorem zC{rets:Array ResultVar}{κ:cV}{ctx:Nat->Nat}{n:Nat}{keep:List Nat}{o:Out}{g d:St}{j:JO}{e:Exit}{a:Act}{u:World}(h:O2 keep o g=some (j,d))(c:Ig P rets κ ctx n o e a u) :
 d=g/\MC P rets κ ctx n keep j e a u:=by
 cases o with
 |normal k=>cases h;exact⟨rfl,c.1,mN c.2.1 c.2.2.symm⟩
 |exit i v=>cases h;exact⟨rfl,c⟩
 |ret r=>cases h;exact⟨rfl,c⟩
theorem DW{keep:List Nat}{o:Out}{τ a:St}{j:JO}(h:O2 keep o τ=some (j,a)):a=τ:=by cases o<;>cases h<;>rfl
theorem C5{R:Type}{n:Nat}{keep:List Nat}{K':Out->St->Option R}{x:Option (JO×St)}{r:R}(h:pg n keep K' x=some r):∃j c,x=some (j,c) ∧
 match j with
 | .normal v=>K' (.normal (place n keep v)) c=some r
 | .exit i v=>K' (.exit i v) c=some r
 | .ret q=>K' (.ret q) c=some r:=by
 unfold pg at h;split at h
 ·cases h
 ·exact⟨_,_,rfl,h⟩
 ·exact⟨_,_,rfl,h⟩
 ·exact⟨_,_,rfl,h⟩
def JO.out(n:Nat)(keep:List Nat):JO->Out
 | .normal v => .normal (place n keep v)
 | .exit i v => .exit i v
 | .ret r => .ret r
theorem rW{R:Type}{n:Nat}{keep:List Nat}{K':Out->St->Option R}{x:Option (JO×St)}{r:R}(h:pg n keep K' x=some r):∃j a,x=some (j,a)/\K' (j.out n keep) a=some r:=by
 obtain⟨j,a,b,c⟩:=C5 h;refine⟨j,a,b,?_⟩;cases j<;>exact c
theorem BN{rets:Array ResultVar}{κ:cV}{ctx:Nat->Nat}{n:Nat}{keep:List Nat}{j:JO}{e:Exit}{a:Act}{u:World}(h:MC P rets κ ctx n keep j e a u):Ig P rets κ ctx n (j.out n keep) e a u:=by
 cases j with
 |normal v=>exact⟨h.1,h.2,by rw[place,iy]⟩
 |exit i v=>exact h
 |ret r=>exact h
theorem Dh{rets:Array ResultVar}{c:Code}{ctx:Nat->Nat}{n:Nat}{keep:List Nat}{f:List T->St->Option (JO×St)}
 (V:∀d σ j g,f d σ=some (j,g)->σ.wf->g.wf/\σ.size<=g.size/\∀(ι:cV) (a:Act) (w:World),jG ι (place n keep d) a.tmps->Rel ι σ.get w->kE ι σ.size g.size →
  ∀(Q:Exit->Act->World->Prop),(∀e k u κ,k.defers=a.defers->Ext ι σ w κ g u->Rel κ g.get u->MC P rets κ ctx n keep j e k u->Q e k u)->c.wp P Q a w) :
 ∀(N:Nat) (d:List T) (σ:St) (j:JO) (g:St),loops f N d σ=some (j,g)->σ.wf->g.wf/\σ.size<=g.size/\(∀v,j ≠ .normal v)/\∀(ι:cV) (a:Act) (w:World),jG ι (place n keep d) a.tmps->Rel ι σ.get w →
  kE ι σ.size g.size->∀(Q:Exit->Act->World->Prop),(∀e k u κ,k.defers=a.defers->Ext ι σ w κ g u->Rel κ g.get u->MC P rets κ ctx n keep j e k u->Q e k u)->Code.rounds P c Q N a w:=by
 intro N;induction N with
 |zero=>intro d σ j g h;cases h
 |succ N ih=>
  intro d σ j g h X;simp only[loops]at h;split at h
  ·cases h
  ·rename_i z x E;obtain⟨t,z1,D⟩:=V d σ _ x E X;obtain⟨Y,z2,hn,g2⟩:=ih z x j g h t;refine⟨Y,bl z1 z2,hn,λι a w F H B Q G => ?_⟩;rw[rounds_succ];refine D ι a w F H (B.sub (au _) z2) _ λe k u κ J C q y => ?_
   obtain⟨rfl,R⟩:=y;refine g2 κ k u R q (B.next C) Q λe O u' Z U S I o => ?_
   exact G e O u' Z (U.trans J) (C.trans S) I o
  ·rename_i i v x E;cases h;obtain⟨t,z1,D⟩:=V d σ _ g E X;refine⟨t,z1,(λv h=>by cases h),λι a w F H B Q G => ?_⟩;rw[rounds_succ];refine D ι a w F H B _ λe k u κ J C q y => ?_
   have o:=y;obtain⟨rfl,_⟩:=y;exact G _ k u κ J C q o
  ·rename_i r x E;cases h;obtain⟨t,z1,D⟩:=V d σ _ g E X;refine⟨t,z1,(λv h=>by cases h),λι a w F H B Q G => ?_⟩;rw[rounds_succ];refine D ι a w F H B _ λe k u κ J C q y => ?_
   have o:=y;obtain⟨rfl,_⟩:=y;exact G _ k u κ J C q o
theorem Gz(hs:aS P aC)(rets:Array ResultVar)(N:Nat):∀(c:Code) {R:Type} (ctx:Nat->Nat) (lo:Nat) (g:List T) (σ:St) (K':Out->St->Option R) (r:R),
 exec P aC rets.toList N c ctx lo g σ K'=some r->σ.wf->∃o τ,K' o τ=some r/\Good P rets c ctx g σ o τ:=by
 intro c;induction c with
 |skip=>
  intro R ctx lo g σ K' r h G;simp only[exec]at h;refine⟨_,_,h,G,au _,λι a w k E F Q D=>wp_skip (D _ a w ι rfl (Ext.refl _ _ _) E ⟨rfl,k,rfl⟩)⟩
 |region id ops draw=>
  intro R ctx lo g σ K' r h G;simp only[exec]at h;split at h
  ·obtain⟨s',C,h2⟩:=HN _ _ _ _ h;obtain⟨Sm,τ⟩:=s';obtain⟨Sr,z⟩:=sw hs C G;have hl:=wi _ _ _ C;refine⟨_,_,h2,Sr,z,λι a w k E F Q D => ?_⟩;exact DE hs C k E G F λκ u H S I J d=>D _ H u κ S J d ⟨rfl,I,hl⟩
  ·split at h
   ·rename_i hc;obtain⟨s',C,h2,h3⟩:=DP _ _ _ _ _ h;obtain⟨Sm,τ⟩:=s';obtain⟨Sr,z⟩:=sw hs h3 G;have hl:=wi _ _ _ h3;refine⟨_,_,h2,Sr,z,λι a w k E F Q D => ?_⟩
    have Su:um P aC ops.toList (g,σ)=some (Sm,τ):=by
     unfold um;rw[af hc];exact C
    exact B5 hs Su k E G F λκ u H S I J d=>D _ H u κ S J d ⟨rfl,I,hl⟩
   ·cases h
 |seq x y Sj Sk=>
  intro R ctx lo g σ K' r h G;simp only[exec]at h;obtain⟨SD,SE,C,t,z1,U⟩:=Sj _ _ _ _ _ _ h G;cases SD with
  |normal SC=>
   obtain⟨o2,SB,h2,Sz,z2,g2⟩:=Sk _ _ _ _ _ _ C t;refine⟨o2,SB,h2,Sz,bl z1 z2,λι a w k E F Q D => ?_⟩;refine wp_seq (U ι a w k E (F.sub (au _) z2) _ λe H u κ S J d O => ?_);obtain⟨rfl,I,hl⟩:=O;refine g2 κ H u I d (F.next J) Q λe Sv u' SA Sx Sw Ss V => ?_
   rw[hl]at V;exact D e Sv u' SA (Sx.trans S) (J.trans Sw) Ss V
  |exit i v=>
   refine⟨_,_,C,t,z1,λι a w k E F Q D => ?_⟩;refine wp_seq (U ι a w k E F _ λe H u κ S J d O => ?_);have V:=O;obtain⟨rfl,_⟩:=O;exact D _ H u κ S J d V
  |ret q=>
   refine⟨_,_,C,t,z1,λι a w k E F Q D => ?_⟩;refine wp_seq (U ι a w k E F _ λe H u κ S J d O => ?_);have V:=O;obtain⟨rfl,_⟩:=O;exact D _ H u κ S J d V
 |cond c x y Sj Sk=>
  intro R ctx lo g σ K' r h G
  have Z:∀(b:Bool) (ι:cV) (a:Act),jG ι g a.tmps->rF g c=B b->a.eval c = .bool b:=by
   intro b ι a k he;have:=EC (a:=a) k.rel c;rw[he]at this;exact this
  simp only[exec]at h;split at h
  ·obtain⟨j,τ,Y,hk⟩:=rW h;rcases AO Y with ⟨Sn,Y⟩ | ⟨Sn,Y⟩
   ·obtain⟨o,Sl,C,t,z1,U⟩:=Sj _ _ _ _ _ _ Y G;have:=DW C;subst this;refine⟨_,_,hk,t,z1,λι a w k E F Q D=>wp_cond_true (Z true ι a k Sn) ?_⟩;exact U ι a w k E F Q λe H u κ S J d O=>D e H u κ S J d (BN (zC C O).2)
   ·obtain⟨o,Sl,C,t,z1,U⟩:=Sk _ _ _ _ _ _ Y G;have:=DW C;subst this;refine⟨_,_,hk,t,z1,λι a w k E F Q D=>wp_cond_false (Z false ι a k Sn) ?_⟩;exact U ι a w k E F Q λe H u κ S J d O=>D e H u κ S J d (BN (zC C O).2)
  ·rcases AO h with ⟨Sn,Y⟩ | ⟨Sn,Y⟩
   ·obtain⟨o,τ,C,t,z1,U⟩:=Sj _ _ _ _ _ _ Y G;refine⟨o,τ,C,t,z1,λι a w k E F Q D=>wp_cond_true (Z true ι a k Sn) (U ι a w k E F Q D)⟩
   ·obtain⟨o,τ,C,t,z1,U⟩:=Sk _ _ _ _ _ _ Y G;refine⟨o,τ,C,t,z1,λι a w k E F Q D=>wp_cond_false (Z false ι a k Sn) (U ι a w k E F Q D)⟩
 |block id c ih=>
  intro R ctx lo g σ K' r h G;simp only[exec]at h;obtain⟨j,τ,Y,hk⟩:=rW h;obtain⟨o,Sl,C,t,z1,U⟩:=ih _ _ _ _ _ _ Y G
  have Sy:Sl=τ:=by
   cases o with
   |normal e=>cases C;rfl
   |exit i v=>simp only at C;split at C<;>cases C<;>rfl
   |ret q=>cases C;rfl
  subst Sy;refine⟨_,_,hk,t,z1,λι a w k E F Q D => ?_⟩;refine wp_block (U ι a w k E F _ λe H u κ S J d O => ?_);cases o with
  |normal e'=>
   cases C;obtain⟨rfl,I,hl⟩:=O;exact D _ H u κ S J d ⟨rfl,mN I hl.symm,by rw[place,iy]⟩
  |exit i v=>
   simp only at C;obtain⟨rfl,I⟩:=O;split at C
   ·rename_i hi;subst hi;cases C;simp only[bY]at I;show(if i=i then Q .normal H u else _)
    rw[af rfl];exact D _ H u κ S J d ⟨rfl,I,by rw[place,iy]⟩
   ·rename_i hi;cases C;simp only[ae hi]at I;show(if i=id then Q .normal H u else Q (.exit i) H u)
    rw[ae hi];exact D _ H u κ S J d ⟨rfl,I⟩
  |ret q=>
   cases C;have V:=O;obtain⟨rfl,_⟩:=O;exact D _ H u κ S J d V
 |loop c ih=>
  intro R ctx lo g σ K' r h G;simp only[exec]at h;obtain⟨j,τ,Y,hk⟩:=rW h
  let lv:=ir (fW rets.toList) (.loop c) ctx lo
  let keep:=cf g.length lv
  have Sp:∀X,(place g.length keep X).length=g.length:=λX=>by rw[place,iy]
  obtain⟨t,z1,hn,U⟩:=Dh (P:=P) (rets:=rets) (c:=c) (ctx:=ctx) (n:=g.length) (keep:=keep)
   (f:=λX τ=>exec P aC rets.toList N c ctx lv (place g.length keep X) τ (O2 keep)) (by
    intro X σ j τ h G;obtain⟨o,Sl,C,t,z1,U⟩:=ih _ _ _ _ _ _ h G;have:=DW C;subst this;refine⟨t,z1,λι a w k E F Q D => ?_⟩;refine U ι a w k E F Q λe H u κ S J d O => ?_
    rw[Sp]at O;exact D e H u κ S J d (zC C O).2) N _ σ j τ Y G
  refine⟨_,_,hk,t,z1,λι a w k E F Q D => ?_⟩;refine wp_loop_rounds N (U ι a w (mN k rfl) E F Q λe H u κ S J d hJ => ?_);refine D e H u κ S J d ?_;cases j with
  |normal v=>exact(hn v rfl).elim
  |exit i v=>exact hJ
  |ret q=>exact hJ
 |scope c ih=>
  intro R ctx lo g σ K' r h G;simp only[exec]at h;obtain⟨o,τ,C,t,z1,U⟩:=ih _ _ _ _ _ _ h G;refine⟨o,τ,C,t,z1,λι a w k E F Q D => ?_⟩;refine wp_scope_straight (U ι a w k E F _ λe H u κ S J d O => ?_);have hq:=D e H u κ S J d O;cases o with
  |normal e'=>obtain⟨rfl,_⟩:=O;exact hq
  |exit i v=>obtain⟨rfl,_⟩:=O;exact hq
  |ret q=>obtain⟨rfl,_⟩:=O;exact hq
 |exit id=>
  intro R ctx lo g σ K' r h G;simp only[exec]at h;refine⟨_,_,h,G,au _,λι a w k E F Q D=>wp_exit (D _ a w ι rfl (Ext.refl _ _ _) E ⟨rfl,mN k rfl⟩)⟩
 |ret=>
  intro R ctx lo g σ K' r h G;simp only[exec]at h;split at h
  ·rename_i l hl;split at h
   ·rename_i q hq;refine⟨_,_,h,G,au _,λι a w k E F Q D=>wp_ret (D _ a w ι rfl (Ext.refl _ _ _) E ⟨rfl,tB k E hl hq⟩)⟩
   ·cases h
  ·cases h
 |rangeFunc f ps x y=>intro R ctx lo g σ K' r h G;simp only[exec]at h;cases h
 |label l=>
  intro R ctx lo g σ K' r h G;simp only[exec]at h;refine⟨_,_,h,G,au _,λι a w k E F Q D=>wp_label (D _ a w ι rfl (Ext.refl _ _ _) E ⟨rfl,k,rfl⟩)⟩
 |goto l=>intro R ctx lo g σ K' r h G;simp only[exec]at h;cases h
 |refuse s=>intro R ctx lo g σ K' r h G;simp only[exec]at h;cases h
theorem qG(a:List T)(vs:List Value)(ι:cV)(n:Nat)(h:bC (aT ι) a vs):jG ι (a++List.replicate n tt) (vs.toArray++Array.replicate n undef):=by
 have d:=aP h;refine⟨by simp[d],λt => ?_⟩;rw[dq,rE];by_cases b:t<a.length
 ·rw[kx b,F0 (by simp;omega)];obtain⟨v,e,r⟩:=cr h t a[t] (aU b);rw[aU b];simp only[oX,e,nh];exact r
 ·rw[ky (by omega),Array.getElem?_append_right (by simp;omega)];by_cases c:t-a.length<n
  ·rw[uw,af c,Mh,af (by simp;omega)];exact jQ
  ·rw[uw,ae c];trivial
theorem CP(hs:aS P aC)(N:Nat):aS P (body P aC N):=by
 have E:∀f d σ t y,body P aC N f d σ=some (t,y)->σ.wf->∃fn c o,P.funcs[f]? = some fn/\fn.body=some c/\d.length<=fn.ntmps ∧
  Good P fn.results c (λ_=>0) (d++List.replicate (fn.ntmps-d.length) tt) σ o y ∧
  (match o with
   | .ret r=>r=t
   | .normal k=>∃l,fI P k y.get fn.results.toList=some l/\aD l=some t
   | .exit _ _=>False):=by
  intro f d σ t y h F;unfold body at h;split at h
  ·cases h
  ·rename_i fn n;split at h
   ·cases h
   ·rename_i c G;split at h
    ·rename_i C;obtain⟨o,Sj,x,B⟩:=Gz hs fn.results N c _ _ _ _ _ _ h F;cases o with
     |ret r=>cases x;exact⟨fn,c,.ret t,n,G,C,B,rfl⟩
     |normal k=>
      simp only at x;split at x
      ·rename_i l O;split at x
       ·rename_i q R;cases x;exact⟨fn,c,.normal k,n,G,C,B,l,O,R⟩
       ·cases x
      ·cases x
     |exit i v=>cases x
    ·cases h
 constructor
 ·intro f d σ t y h F;obtain⟨fn,c,o,_,_,_,B,_⟩:=E f d σ t y h F;exact⟨B.1,B.2.1⟩
 ·intro f d σ t y h F ι w vs Z Y j;obtain⟨fn,c,o,n,G,C,B,H⟩:=E f d σ t y h F;obtain⟨_,_,g⟩:=B;have O:=aP j;refine calls_of_wp n G ?_;have D:=qG d vs ι (fn.ntmps-d.length) j;have S:fn.ntmps-vs.toArray.size=fn.ntmps-d.length:=by simp[O]
  rw[S];refine g ι _ w D Z Y _ λe a' u κ X V z U => ?_
  cases o with
  |ret r=>
   obtain⟨rfl,v,T,J⟩:=U;simp only at H;subst H;exact⟨X,v,T fn rfl,κ,v,rfl,V,z,J⟩
  |normal k=>
   obtain⟨rfl,I,_⟩:=U;obtain⟨l,Q,R⟩:=H;obtain⟨v,T,J⟩:=tB I z Q R;exact⟨X,v,T fn rfl,κ,v,rfl,V,z,J⟩
  |exit i v=>exact H.elim
theorem mK:aS P (λ_ _ _=>none):=⟨(λf a σ t b h=>by cases h),(λf a σ t b h=>by cases h)⟩
end
end Go.Abs
namespace Go.Abs
open Go Go.ChangeShapes
def Kept(W u:World):Prop:=u.os=W.os/\u.output=W.output/\W.heap.size<=u.heap.size/\∀k,k<W.heap.size->u.heap[k]? = W.heap[k]?
theorem Kept.but{W u:World}(h:Kept W u)(may:MemPlace->Prop):W.keptBut u may:=by
 refine⟨h.1,h.2.1,λi hi => ?_⟩;rw[h.2.2.2 i hi];cases W.heap[i]? with
 |none=>trivial
 |some o=>cases o with
  |cells c t d=>exact⟨rfl,rfl,rfl,λ_ _=>rfl⟩
  |map es clock=>exact .inr ⟨rfl,rfl⟩
  |_=>rfl
theorem Kept.frozen{W u:World}(h:Kept W u){a:Addr}(b:a.block<W.heap.size):u.frozen? a=W.frozen? a:=by
 unfold World.frozen?;rw[h.2.2.2 _ b]
theorem yE{P:Program}{aC:bc}(s:aS P aC){f:FuncId}{c:List T}{vs:List Value}{σ d:St}{ι:cV}{W:World}{b:Bool}
 (h:aC f c σ=some (B b,d)) (w:σ.wf) (m:Rel ι σ.get W) (j:kE ι σ.size d.size) (g:bC (aT ι) c vs)
 (o:∀i L,i<σ.size->ι i=some L->¬live (σ.get i)) :
 Calls P f vs.toArray W λe u=>e = .returned (.bool b)/\Kept W u:=by
 refine(s.calls f c σ _ d h w ι W vs m j g).mono λe u ⟨κ,v,p,a,_,n⟩ => ?_
 have t:v = .bool b:=n;subst t;exact⟨p,a.os,a.output,a.hsize,λk q=>a.keep k q λi L hi l r=>absurd r (o i L hi l)⟩
section
variable {H:Type}{enc:TypeId×Value->H}{P:Program}
theorem Hd{f:Func}{s:ChangeSpec}{apart fresh handsOn again:Bool}{W u:World}{args:Array Value}{v:Value}{g gs:List (DataW H)}{before w pv:List MemPlace}
 (x:DataW.Whole enc P f.params.toList s.vars apart W args.toList g gs before) (z:Kept W u) (k:before=w++pv)
 (i:∀(b:Nat) (l:Nat->Bool) (D:Bool),DataW.TrodAll enc P u b l D f.resultTypes.toList (v.resultList f.resultTypes.size) (s.fn H (g++gs)).results [])
 (c:∀l:Nat->Bool,(∀p∈before,l p.block=true)->DataW.TrodAll enc P u 0 l true f.params.toList args.toList (s.fn H (g++gs)).args w)
 (d:∀l:Nat->Bool,(∀p∈before,l p.block=true)->DataW.TrodVars enc P u l s.vars (s.fn H (g++gs)).vars pv)
 (y:∀(j:Nat) (t:TypeId) (r:Value),f.resultTypes[j]? = some t->(v.resultList f.resultTypes.size)[j]? = some r->Value.okWide P u .any 0 t r) :
 s.post enc P f apart fresh handsOn again W args v u:=by
 have lt:=x.lt;have q:∀p∈before,(λb=>decide (b<W.heap.size)) p.block=true:=λp m=>aK (lt p m)
 have yes:∀p∈before,(λ_:Nat=>true) p.block=true:=λ_ _=>rfl
 have whole:=x;obtain⟨E,F,w1,G,I,a,e⟩:=x;refine⟨g,gs,before,[],w,pv,whole,i _ _ _,c _ q,d _ q,World.keptBut_mono (λ_ h=>h.elim) (z.but λ_=>False),λ_=>⟨y,(s.fn H (g++gs)).results++(s.fn H (g++gs)).args,(s.fn H (g++gs)).vars,w++pv,?_,λp m _=>by rw[k];exact m⟩⟩;refine⟨[]++w,pv,?_,d _ yes,rfl,λb o m => ?_,λC => ?_⟩
 ·have A:=c (λ_=>true) yes;have B:=i 0 (λ_=>true) true;exact trodAll_append A B
 ·have n:MemPlace.cell b o∈before:=by rw[k];exact m
  rw[z.frozen (lt _ n)];exact a b o n
 ·rw[<-k];exact e C
end
end Go.Abs
