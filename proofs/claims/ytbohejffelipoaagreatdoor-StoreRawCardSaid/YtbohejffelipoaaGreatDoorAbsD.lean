/-
  A library of our own, several texts in one: an abstract store for the model, and runs over it. Nothing here speaks of any program. No conditions.
-/
import Derived.Test.YtbohejffelipoaaGreatDoorAbsC
import Derived.KernelRfl
set_option linter.unusedVariables false
set_option linter.unusedSimpArgs false
set_option maxHeartbeats 4000000
namespace Go.Abs.F
open Go Go.Abs
abbrev Env:=Nat->T
def Ai(ρ:Env):Operand->T
 | .tmp t=>ρ t
 | .const v=>match CE v with
   |some x => .v x
   |none => .any
 | .func f => .v (.s (.jX f []))
 | .global _ => .any
def QU(ρ:Env)(d:Nat)(t:T):Env:=λi=>match Nat.beq i d with
 |true=>t
 |false=>ρ i
def qV(n:Nat)(ρ:Env)(dst:Option Tmp)(t:T):Env:=match dst with
 |some d=>match Nat.blt d n with
  |true=>QU ρ d t
  |false=>ρ
 |none=>ρ
def gd(t:T)(want:Bool):Option Bool:=match t with
 | .any=>none
 | .v (.s .any)=>none
 | .v (.s (.bool b))=>some (b == want)
 |_=>some false
def nG(ops:List Oper)(ρ:Env)(o:Oper):Option Bool:=match o.guard with
 |none=>some true
 |some (j,want)=>match ops[j]? with
  |none=>some false
  |some c=>match c.dst with
   |none=>some false
   |some d=>gd (ρ d) want
def Sb(c:T):Option Bool:=match c with
 | .v (.s (.bool b))=>some b
 |_=>none
inductive KF where
 |M (x:Operand) | P | L | A | W
def kf:Abs.K->KF
 | .P => .P
 | .L => .L
 | .A => .A
 | .W => .W
def QJ(P:Program)(o:Oper):KF:=
 match o.guard,o.op with
 |none,.move x => .M x
 |none,.assign x => .M x
 |_,op=>kf (kindOf P op)
noncomputable def bd{α R:Type}(x:Option α)(K:α->Option R):Option R:=Option.rec none K x
noncomputable def ax{R:Type}(x:Option (T×St))(K:T->St->Option R):Option R:=Option.rec none (λp=>Prod.rec K p) x
noncomputable def ck{R:Type}(b:Bool)(x:Option R):Option R:=Bool.rec none x b
noncomputable def br{R:Type}(c:T)(a b:Option R):Option R:=Option.rec none (λv=>Bool.rec b a v) (Sb c)
noncomputable def ye{R:Type}(P:Program)(aC:bc)(n:Nat)(ops:List Oper)(o:Oper)(ρ:Env)(σ:St)(K:Env->St->Option R):Option R:=
 KF.rec (λx=>K (qV n ρ o.dst (Ai ρ x)) σ)
  (bd (gT (nG ops ρ o) (qP P o.op (Ai ρ))) λt=>K (qV n ρ o.dst t) σ)
  (bd (gT (nG ops ρ o) (tP P o.op (Ai ρ) σ.get)) λt=>K (qV n ρ o.dst t) σ)
  (ax (gS (nG ops ρ o) σ (aE σ (zk P o.op (Ai ρ)))) λt a=>K (qV n ρ o.dst t) a)
  (ax (gS (nG ops ρ o) σ (BM P aC o.op (Ai ρ) σ)) λt a=>K (qV n ρ o.dst t) a)
  (QJ P o)
noncomputable def P6{R:Type}(P:Program)(aC:bc)(n:Nat)(ops:List Oper)(l:List Oper):Env->St->(Env->St->Option R)->Option R:=
 List.rec (λρ σ K=>K ρ σ) (λo _ b ρ σ K=>ye P aC n ops o ρ σ λρ' a=>b ρ' a K) l
abbrev lq:=List (Env×St)
def lq.at(h:lq)(k:Nat):Env×St:=h.getD k ((λ_ => .any),St.empty)
def pE(P:Program)(ops:List Oper)(h:lq):List (Oper×Nat)->List (Nat×Nat×er)
 | []=>[]
 |(o,k)::r=>match kindOf P o.op with
  | .A=>match nG ops (h.at k).1 o with
    |some true=>match zk P o.op (Ai (h.at k).1)with
     |some (b,_)=>(k,(h.at k).2.size,b)::pE P ops h r
     |none=>pE P ops h r
    |_=>pE P ops h r
  |_=>pE P ops h r
def PB(P:Program)(ops:List Oper)(h:lq)(p:Nat):Mem:=cl p (h.at p).2.get (pE P ops h ops.zipIdx)
def wq(g:Option Bool)(b:Bool):Bool:=match g with
 |some true=>b
 |_=>true
def Mf(P:Program)(ops:List Oper)(ms:List Nat)(h:lq):Bool:=
 ops.zipIdx.all λ(o,k)=>match kindOf P o.op with
  | .L=>(0::(wy P ops.zipIdx).map (· + 1)).all λp => !(eO (wy P ops.zipIdx) ms k p)||(Nat.beq p (canon (wy P ops.zipIdx) k) ||
   wq (nG ops (h.at k).1 o) (decide (tP P o.op (Ai (h.at k).1) (PB P ops h p)=tP P o.op (Ai (h.at k).1) (h.at k).2.get)))
  |_=>true
noncomputable def Fg{R:Type}(P:Program)(aC:bc)(n:Nat)(ops:List Oper)(ms:List Nat)(l:List Oper):lq->Env->St->(Env->St->Option R)->Option R:=
 List.rec (λh ρ σ K=>Bool.rec none (K ρ σ) (Mf P ops ms (h++[(ρ,σ)])))
  (λo _ b h ρ σ K=>ye P aC n ops o ρ σ λρ' a=>b (h++[(ρ,σ)]) ρ' a K) l
def ke(c:List T):List Nat->Nat->Env
 | [],_=>λ_ => .any
 |k::ks,j=>λi=>match Nat.beq k i with
  |true=>c.getD j .any
  |false=>ke c ks (j+1) i
def tu(keep:List Nat)(ρ:Env):List T:=keep.map ρ
inductive wD where
 |normal (ρ:Env)
 |exit (id:Nat) (Qe:List T)
 |ret (r:T)
noncomputable def jn{R:Type}(x:Option (JO×St))(f:List T->St->Option R)(g:Nat->List T->St->Option R)(h:T->St->Option R):Option R:=
 Option.rec none (λp=>Prod.rec (λj a=>JO.rec (λv=>f v a) (λi v=>g i v a) (λr=>h r a) j) p) x
noncomputable def vo{R:Type}(keep:List Nat)(K:wD->St->Option R)(x:Option (JO×St)):Option R:=
 jn x (λv a=>K (.normal (ke v keep 0)) a) (λi v a=>K (.exit i v) a) (λr a=>K (.ret r) a)
noncomputable def Qt(keep:List Nat)(o:wD)(a:St):Option (JO×St):=
 wD.rec (λρ=>some (.normal (tu keep ρ),a)) (λi v=>some (.exit i v,a)) (λr=>some (.ret r,a)) o
def sr(P:Program)(ρ:Env)(g:Mem):List ResultVar->Option (List T)
 | []=>some []
 | .tmp t::r=>match sr P ρ g r with
   |some l=>some (ρ t::l)
   |none=>none
 | .cell a t::r=>match fy P t with
   |some true=>match dH P t with
    |some n=>match ay n (ρ a) g,sr P ρ g r with
     |some x,some l=>some (x::l)
     |_,_=>none
    |none=>none
   |some false=>match aa (ρ a) g,sr P ρ g r with
    |some x,some l=>some (x::l)
    |_,_=>none
   |none=>none
abbrev O5:Type 1:=∀(R:Type),(Nat->Nat)->Nat->Env->St->(wD->St->Option R)->Option R
noncomputable def xp(P:Program)(aC:bc)(rets:List ResultVar)(n N:Nat)(c:Code):O5:=
 Code.rec (motive:=λ_=>O5)
  (λ_ _ _ ρ σ K=>K (.normal ρ) σ)
  (λ_ ops draw _ _ _ ρ σ K=>Bool.rec
   (P6 P aC n ops.toList ops.toList ρ σ λρ' g=>K (.normal ρ') g)
   (Bool.rec none (Fg P aC n ops.toList (eB ops.toList) ops.toList [] ρ σ λρ' g=>K (.normal ρ') g) (P.follows .mixedOrders&&jP P ops.toList (eB ops.toList)))
   draw)
  (λ_ b e f R ctx lo ρ σ K=>e R ctx (ir (fW rets) b ctx lo) ρ σ λo d=>wD.rec (λρ'=>f R ctx lo ρ' d K) (λi v=>K (.exit i v) d) (λr=>K (.ret r) d) o)
  (λc a b e f R ctx lo ρ σ K=>Bool.rec
   (br (Ai ρ c) (e R ctx lo ρ σ K) (f R ctx lo ρ σ K))
   (vo (cf n lo) K (br (Ai ρ c) (e _ ctx lo ρ σ (Qt (cf n lo))) (f _ ctx lo ρ σ (Qt (cf n lo)))))
   (ends a&&ends b))
  (λid _ h _ ctx lo ρ σ K=>vo (cf n lo) K (h _ (λi=>if i=id then lo else ctx i) lo ρ σ λo d=>
   wD.rec (λρ'=>some (.normal (tu (cf n lo) ρ'),d)) (λi v=>if i=id then some (.normal v,d)else some (.exit i v,d)) (λr=>some (.ret r,d)) o))
  (λc h _ ctx lo ρ σ K=>vo [] K (loops (λj d=>h _ ctx (ir (fW rets) (.loop c) ctx lo) (ke j (cf n (ir (fW rets) (.loop c) ctx lo)) 0) d
   (Qt (cf n (ir (fW rets) (.loop c) ctx lo)))) N (tu (cf n (ir (fW rets) (.loop c) ctx lo)) ρ) σ))
  (λ_ _ _ _ _ _ _ _ _ _ _ _=>none)
  (λid _ ctx _ ρ σ K=>K (.exit id (tu (cf n (ctx id)) ρ)) σ)
  (λ_ h R ctx lo ρ σ K=>h R ctx lo ρ σ K)
  (λ_ _ _ _ ρ σ K=>K (.normal ρ) σ)
  (λ_ _ _ _ _ _ _=>none)
  (λ_ _ _ ρ σ K=>bd (sr P ρ σ.get rets) λl=>bd (aD l) λr=>K (.ret r) σ)
  (λ_ _ _ _ _ _ _=>none) c
def Iy(n:Nat):List T->Nat->T
 | [],i=>match Nat.blt i n with
   |true=>tt
   |false => .any
 |t::r,0=>match n with
  | 0 => .any
  |_+1=>t
 |_::r,i+1=>Iy (n-1) r i
noncomputable def sN(P:Program)(aC:bc)(N:Nat)(fn:Func)(args:List T)(σ:St):Option (T×St):=
 xp P aC fn.results.toList fn.ntmps N (fn.body.getD .skip) _ (λ_=>0) 0 (Iy fn.ntmps args) σ λo a=>
  wD.rec (λρ=>bd (sr P ρ a.get fn.results.toList) λl=>bd (aD l) λr=>some (r,a)) (λ_ _=>none) (λr=>some (r,a)) o
def G(a:List T)(ρ:Env):Prop:=∀i,a.getD i .any=ρ i
theorem G.ev{c:List T}{ρ:Env}(h:G c ρ):rF c=Ai ρ:=by
 funext x
 cases x with
 |tmp t=>exact h t
 |const v=>rfl
 |func f=>rfl
 |global g=>rfl
theorem G.want{c:List T}{ρ:Env}(h:G c ρ)(ops:List Oper)(o:Oper):dB ops c o=nG ops ρ o:=by
 unfold dB nG;cases o.guard with
 |none=>rfl
 |some p=>
  obtain⟨j,w⟩:=p;simp only;cases ops[j]? with
  |none=>rfl
  |some e=>
   simp only;cases e.dst with
   |none=>rfl
   |some d=>
    show gd (c.getD d .any) w=gd (ρ d) w
    rw[h d]
theorem G.put{c:List T}{ρ:Env}(h:G c ρ)(dst:Option Tmp)(t:T):G (ct c dst t) (qV c.length ρ dst t):=by
 intro i;unfold ct qV;cases dst with
 |none=>exact h i
 |some d=>
  simp only;cases k:Nat.blt d c.length with
  |false=>
   simp only
   have:¬d<c.length:=λg=>by
    have:Nat.blt d c.length=true:=by simpa[uH]using g
    rw[this]at k;cases k
   rw[FJ (nf this)];exact h i
  |true=>
   have g:d<c.length:=by simpa[uH]using k
   simp only[QU];cases j:Nat.beq i d with
   |true=>
    have:i=d:=dY j;subst this;simp[dq,g]
   |false=>
    have:i≠d:=λe=>by subst e;rw[kQ]at j;cases j
    simp only;rw[<-h i,dq,dq,rv (by omega)]
theorem OE(a:List T)(dst:Option Tmp)(t:T):(ct a dst t).length=a.length:=by
 unfold ct;cases dst<;>simp
section
variable {P:Program}{aC:bc}{n:Nat}
theorem Py{α R:Type}(x:Option α)(K:α->Option R):bd x K=Abs.thn x K:=by cases x<;>rfl
theorem MH{R:Type}(x:Option (T×St))(K:T->St->Option R):ax x K=Abs.O1 x K:=by
 cases x with
 |none=>rfl
 |some p=>rfl
theorem II{R:Type}(c:T)(a b:Option R):br c a b=Abs.PC c a b:=by
 cases c with
 |any=>rfl
 |c6 l=>rfl
 |v x=>cases x with
  |agg l=>rfl
  |s y=>cases y with
   |bool q=>cases q<;>rfl
   |_=>rfl
theorem Co{R:Type}{ops:List Oper}{o:Oper}{c:List T}{ρ:Env}{σ:St}{K:List T×St->Option R}{K':Env->St->Option R}(k:c.length=n)(h:G c ρ)
 (q:∀d ρ' e,d.length=n->G d ρ'->K (d,e)=K' ρ' e):Abs.q5 P aC ops o (c,σ) K=ye P aC n ops o ρ σ K':=by
 have u:∀t,G (ct c o.dst t) (qV n ρ o.dst t):=λt=>by rw[<-k];exact h.put _ _
 have r:∀t,(ct c o.dst t).length=n:=λt=>by rw[OE,k]
 have j:∀t τ,K (ct c o.dst t,τ)=K' (qV n ρ o.dst t) τ:=λt τ=>q _ _ _ (r t) (u t)
 have main:Abs.q5 P aC ops o (c,σ) K=KF.rec (λx=>K' (qV n ρ o.dst (Ai ρ x)) σ)
  (bd (gT (nG ops ρ o) (qP P o.op (Ai ρ))) λt=>K' (qV n ρ o.dst t) σ)
  (bd (gT (nG ops ρ o) (tP P o.op (Ai ρ) σ.get)) λt=>K' (qV n ρ o.dst t) σ)
  (ax (gS (nG ops ρ o) σ (aE σ (zk P o.op (Ai ρ)))) λt τ=>K' (qV n ρ o.dst t) τ)
  (ax (gS (nG ops ρ o) σ (BM P aC o.op (Ai ρ) σ)) λt τ=>K' (qV n ρ o.dst t) τ) (kf (kindOf P o.op)):=by
  unfold Abs.q5;simp only[h.ev,h.want,j,Py,MH];cases kindOf P o.op<;>rfl
 rw[main];obtain⟨dst,op,ty,pos,after,guard⟩:=o;unfold ye;cases guard with
 |some g=>rfl
 |none=>cases op<;>rfl
theorem OW{R:Type}{ops:List Oper}:∀(l:List Oper) {d:List T} {ρ:Env} {σ:St} {K:List T×St->Option R} {K':Env->St->Option R},d.length=n->G d ρ →
 (∀c ρ' e,c.length=n->G c ρ'->K (c,e)=K' ρ' e)->Abs.runK P aC ops l (d,σ) K=P6 P aC n ops l ρ σ K':=by
 intro l;induction l with
 |nil=>intro d ρ σ K K' j h g;exact g _ _ _ j h
 |cons o l r=>
  intro d ρ σ K K' j h g;show Abs.q5 P aC ops o (d,σ) _=ye P aC n ops o ρ σ λρ' e=>P6 P aC n ops l ρ' e K'
  exact Co j h λc ρ' e k q=>r k q g
def HG(h:mh)(a:lq):Prop:=∀k,G (h.at k).1 (a.at k).1/\(h.at k).2=(a.at k).2
theorem HG.nil:HG [] []:=λk=>⟨λi=>by simp[mh.at,lq.at],rfl⟩
theorem HG.snoc{h:mh}{d:lq}(e:h.length=d.length)(k:HG h d){c:List T}{ρ:Env}(σ:St)(g:G c ρ):HG (h++[(c,σ)]) (d++[(ρ,σ)]):=by
 intro j;unfold mh.at lq.at;rcases uI j h.length with hj | hj | hj
 ·have:=k j;unfold mh.at lq.at at this;simp only[dq]at this ⊢;rw[kx hj,kx (by omega)];exact this
 ·simp only[dq];rw[ky (by omega),ky (by omega)];simp[hj,e];exact g
 ·simp only[dq];rw[iS (by simp;omega),iS (by simp;omega)];exact⟨λi=>by simp,rfl⟩
theorem Ij{ops:List Oper}{h:mh}{c:lq}(k:HG h c):∀l,nL P ops h l=pE P ops c l:=by
 intro l;induction l with
 |nil=>rfl
 |cons p l d=>
  obtain⟨o,q⟩:=p;simp only[nL,pE,(k q).1.want,(k q).1.ev,(k q).2,d];rfl
theorem Qg{ops:List Oper}{ms:List Nat}{h:mh}{hF:lq}(k:HG h hF):rn P ops ms h=Mf P ops ms hF:=by
 unfold rn Mf;show List.all _ _=List.all _ _
 congr 1
 funext ⟨o,q⟩
 have a:∀p,Qo P ops h p=PB P ops hF p:=λp=>by unfold Qo PB;rw[Ij k,(k p).2]
 simp only[(k q).1.want,(k q).1.ev,(k q).2,a];cases kindOf P o.op<;>rfl
theorem LY{R:Type}{ops:List Oper}{ms:List Nat}:∀(l:List Oper) {h:mh} {j:lq} {c:List T} {ρ:Env} {σ:St} {K:List T×St->Option R} {K':Env->St->Option R},
 h.length=j.length->HG h j->c.length=n->G c ρ->(∀d ρ' e,d.length=n->G d ρ'->K (d,e)=K' ρ' e)->Abs.wh P aC ops ms l h (c,σ) K=Fg P aC n ops ms l j ρ σ K':=by
 intro l;induction l with
 |nil=>
  intro h j c ρ σ K K' k r t g q;show Abs.Rv (rn P ops ms (h++[(c,σ)])) (K (c,σ))=Bool.rec none (K' ρ σ) (Mf P ops ms (j++[(ρ,σ)]))
  rw[Qg (r.snoc k σ g),q _ _ _ t g];cases Mf P ops ms (j++[(ρ,σ)])<;>rfl
 |cons o l x=>
  intro h j c ρ σ K K' k r t g q;show Abs.q5 P aC ops o (c,σ) _=ye P aC n ops o ρ σ λρ' e=>Fg P aC n ops ms l (j++[(ρ,σ)]) ρ' e K'
  exact Co t g λd ρ' e u w=>x (by simp[k]) (r.snoc k σ g) u w q
theorem ui{a:List T}{ρ:Env}(g:G a ρ)(keep:List Nat):proj keep a=tu keep ρ:=by
 unfold proj tu
 congr 1
 funext i
 exact g i
theorem lF(v:List T):∀(m i:Nat) (ks:List Nat) (j d:Nat),ks.Pairwise (· < ·)->(∀k∈ks,i<=k/\k<i+m)->(eC v m i ks j).getD d .any=ke v ks j (i+d):=by
 intro m;induction m with
 |zero=>
  intro i ks j d g o;cases ks with
  |nil=>simp[eC,ke]
  |cons k ks=>have:=o k (by simp);omega
 |succ m r=>
  intro i ks j d g o;cases ks with
  |nil=>
   cases d with
   |zero=>rfl
   |succ d=>simp only[eC,gi];rw[r (i+1) [] j d .nil (by simp)];rfl
  |cons k ks=>
   have u:=o k (by simp);cases n:Nat.beq k i with
   |true=>
    have:k=i:=dY n;subst this;simp only[eC,n];cases d with
    |zero=>simp[ke]
    |succ d=>
     simp only[gi];rw[r (k+1) ks (j+1) d (eT.1 g).2 (λq hq=>⟨(eT.1 g).1 q hq,by have:=(o q (by simp[hq])).2;omega⟩)]
     have:Nat.beq k (k+(d+1))=false:=by
      cases t:Nat.beq k (k+(d+1))with
      |false=>rfl
      |true=>have:=dY t;omega
     simp only[ke,this]
     congr 1
     omega
   |false=>
    have w:k≠i:=λe=>by subst e;rw[kQ]at n;cases n
    simp only[eC,n];cases d with
    |zero=>
     have c:∀(ks:List Nat) (j:Nat),(∀q∈ks,i<q)->ke v ks j i = .any:=by
      intro ks;induction ks with
      |nil=>intro j _;rfl
      |cons q ks r=>
       intro j h;have x:=h q (by simp)
       have:Nat.beq q i=false:=by
        cases t:Nat.beq q i with
        |false=>rfl
        |true=>have:=dY t;omega
       simp only[ke,this];exact r _ λq hq=>h q (by simp[hq])
     show T.any=_
     rw[iX,c (k::ks) j];intro q hq;rcases cq.1 hq with rfl | hq
     ·omega
     ·have:=(eT.1 g).1 q hq;omega
    |succ d=>
     simp only[gi]
     rw[r (i+1) (k::ks) j d g (λq hq=>⟨by
      rcases cq.1 hq with rfl | hq
      ·omega
      ·have:=(eT.1 g).1 q hq;omega,by have:=(o q hq).2;omega⟩)]
     congr 1
     omega
theorem wL(n s:Nat):(cf n s).Pairwise (· < ·):=(List.pairwise_lt_range).filter _
theorem GU{n s k:Nat}(h:k∈cf n s):k<n:=by
 unfold cf at h;exact jA.1 (Fw.1 h).1
theorem vK(v:List T)(n s:Nat):G (place n (cf n s) v) (ke v (cf n s) 0):=by
 intro i;unfold place;rw[lF v n 0 _ 0 i (wL n s) (λk a=>⟨cc _,by have:=GU a;omega⟩),a7]
theorem Hb(v:List T)(n:Nat):G (place n [] v) (ke v [] 0):=by
 intro i;unfold place;rw[lF v n 0 [] 0 i .nil (by simp),a7]
theorem xV(n:Nat)(keep:List Nat)(v:List T):(place n keep v).length=n:=by rw[place,iy]
theorem LF{c:List T}{ρ:Env}(g:G c ρ)(m:Mem):∀l,fI P c m l=sr P ρ m l:=by
 intro l;induction l with
 |nil=>rfl
 |cons r l d=>cases r<;>(simp only[fI,sr,d,g _];rfl)
structure KG{R:Type}(n:Nat)(K:Out->St->Option R)(K':wD->St->Option R):Prop where
 normal:∀env ρ τ,env.length=n->G env ρ->K (.normal env) τ=K' (.normal ρ) τ
 exit:∀i v τ,K (.exit i v) τ=K' (.exit i v) τ
 ret:∀r τ,K (.ret r) τ=K' (.ret r) τ
theorem KG.to(n s:Nat):KG n (O2 (cf n s)) (Qt (cf n s)):=
 ⟨λa ρ b _ g=>by show some _=some _;rw[ui g],λ_ _ _=>rfl,λ_ _=>rfl⟩
theorem yX{R:Type}{keep:List Nat}{K:Out->St->Option R}{K':wD->St->Option R}(k:KG n K K')(c:∀v,G (place n keep v) (ke v keep 0))(x:Option (JO×St)):pg n keep K x=vo keep K' x:=by
 cases x with
 |none=>rfl
 |some p=>
  obtain⟨j,d⟩:=p;cases j with
  |normal v=>exact k.normal _ _ _ (xV _ _ _) (c v)
  |exit i v=>exact k.exit _ _ _
  |ret r=>exact k.ret _ _
theorem MW(rets:List ResultVar)(N:Nat):∀(c:Code) {R:Type} (ctx:Nat->Nat) (lo:Nat) (d:List T) (ρ:Env) (σ:St) (K:Out->St->Option R) (K':wD->St->Option R),
 d.length=n->G d ρ->KG n K K'->exec P aC rets N c ctx lo d σ K=xp P aC rets n N c R ctx lo ρ σ K':=by
 intro c;induction c with
 |skip=>intro R ctx lo d ρ σ K K' e g k;exact k.normal _ _ _ e g
 |region id ops draw=>
  intro R ctx lo d ρ σ K K' e g k;cases draw with
  |false=>exact OW _ e g λh ρ' u j t=>k.normal _ _ _ j t
  |true=>
   show(match P.follows .mixedOrders&&jP P ops.toList (eB ops.toList)with
    |true=>wh P aC ops.toList (eB ops.toList) ops.toList [] (d,σ) λs=>K (.normal s.1) s.2
    |false=>none)=Bool.rec none (Fg P aC n ops.toList (eB ops.toList) ops.toList [] ρ σ λρ' u=>K' (.normal ρ') u) (P.follows .mixedOrders&&jP P ops.toList (eB ops.toList))
   cases P.follows .mixedOrders&&jP P ops.toList (eB ops.toList)with
   |false=>rfl
   |true=>exact LY _ rfl HG.nil e g λh ρ' u j t=>k.normal _ _ _ j t
 |seq x y o q=>
  intro R ctx lo d ρ σ K K' e g k;refine o ctx _ d ρ σ _ _ e g ⟨λh ρ' w j t=>q ctx lo h ρ' w _ _ j t k,λ_ _ _=>k.exit _ _ _,λ_ _=>k.ret _ _⟩
 |cond c x y o q=>
  intro R ctx lo d ρ σ K K' e g k
  show(match ends x&&ends y with
   |true=>pg d.length (cf d.length lo) K (Abs.PC (rF d c) (exec P aC rets N x ctx lo d σ (O2 (cf d.length lo))) (exec P aC rets N y ctx lo d σ (O2 (cf d.length lo))))
   |false=>Abs.PC (rF d c) (exec P aC rets N x ctx lo d σ K) (exec P aC rets N y ctx lo d σ K))=Bool.rec
    (br (Ai ρ c) (xp P aC rets n N x R ctx lo ρ σ K') (xp P aC rets n N y R ctx lo ρ σ K'))
    (vo (cf n lo) K' (br (Ai ρ c) (xp P aC rets n N x _ ctx lo ρ σ (Qt (cf n lo))) (xp P aC rets n N y _ ctx lo ρ σ (Qt (cf n lo)))))
    (ends x&&ends y)
  rw[e];cases ends x&&ends y with
  |true=>
   simp only;rw[yX k (λv=>vK v n lo),o ctx lo d ρ σ _ _ e g (KG.to n lo),q ctx lo d ρ σ _ _ e g (KG.to n lo),II,g.ev]
  |false=>
   simp only;rw[o ctx lo d ρ σ _ _ e g k,q ctx lo d ρ σ _ _ e g k,II,g.ev]
 |block id c z=>
  intro R ctx lo d ρ σ K K' e g k;show pg d.length (cf d.length lo) K _=vo (cf n lo) K' _
  rw[e,yX k (λv=>vK v n lo)]
  congr 1
  refine z _ lo d ρ σ _ _ e g ⟨λh ρ' w j t => ?_,λi v w=>rfl,λr w=>rfl⟩;show some _=some _
  rw[ui t]
 |loop c z=>
  intro R ctx lo d ρ σ K K' e g k;show pg d.length [] K (loops _ N (proj (cf d.length (ir (fW rets) (.loop c) ctx lo)) d) σ)=vo [] K' (loops _ N (tu (cf n (ir (fW rets) (.loop c) ctx lo)) ρ) σ)
  rw[e,yX k (λv=>Hb v n),ui g]
  congr 2
  funext B w
  exact z ctx _ _ _ w _ _ (xV _ _ _) (vK _ _ _) (KG.to n _)
 |scope c z=>intro R ctx lo d ρ σ K K' e g k;exact z ctx lo d ρ σ K K' e g k
 |exit id=>
  intro R ctx lo d ρ σ K K' e g k;show K (.exit id (proj (cf d.length (ctx id)) d)) σ=K' (.exit id (tu (cf n (ctx id)) ρ)) σ
  rw[e,ui g];exact k.exit _ _ _
 |ret=>
  intro R ctx lo d ρ σ K K' e g k
  show(match fI P d σ.get rets with
   |some l=>match aD l with
    |some r=>K (.ret r) σ
    |none=>none
   |none=>none)=bd (sr P ρ σ.get rets) λl=>bd (aD l) λr=>K' (.ret r) σ
  rw[LF g];cases sr P ρ σ.get rets with
  |none=>rfl
  |some l=>
   show(match aD l with
    |some r=>K (.ret r) σ
    |none=>none)=bd (aD l) λr=>K' (.ret r) σ
   cases aD l with
   |none=>rfl
   |some r=>exact k.ret _ _
 |rangeFunc f C x y=>intro R ctx lo d ρ σ K K' e g k;rfl
 |label l=>intro R ctx lo d ρ σ K K' e g k;exact k.normal _ _ _ e g
 |goto l=>intro R ctx lo d ρ σ K K' e g k;rfl
 |refuse s=>intro R ctx lo d ρ σ K K' e g k;rfl
theorem Px:∀(args:List T) (n:Nat),args.length<=n->G (args++List.replicate (n-args.length) tt) (Iy n args):=by
 intro args;induction args with
 |nil=>
  intro n _ i;simp only[dD,dO,uK,Iy];rw[dq,uw];cases c:Nat.blt i n with
  |true=>rw[af (by simpa[uH]using c)];rfl
  |false=>
   have:¬i<n:=λh=>by
    have:Nat.blt i n=true:=by simpa[uH]using h
    rw[this]at c;cases c
   rw[ae this];rfl
 |cons t args e=>
  intro n d i;simp only[bB]at d;cases n with
  |zero=>omega
  |succ m=>
   cases i with
   |zero=>rfl
   |succ i=>
    have:=e m (by omega) i;simp only[Aa,bB,gi,Iy,jC];rw[<-this,show m+1-(args.length+1)=m-args.length by omega]
theorem MJ{f:FuncId}{fn:Func}{N:Nat}{args:List T}{σ:St}(k:P.funcs[f]? = some fn)(j:fn.body.isSome=true)(n:Nat.ble args.length fn.ntmps=true) :
 body P aC N f args σ=sN P aC N fn args σ:=by
 have e:args.length<=fn.ntmps:=cm n;obtain⟨c,j⟩:=zY.1 j;unfold body sN;simp only[k,j,af e,nh];refine MW _ _ c _ _ _ _ _ _ _ (by simp;omega) (Px args fn.ntmps e) ⟨λh ρ d _ g => ?_,λi v d=>rfl,λr d=>rfl⟩
 show(match fI P h d.get fn.results.toList with
  |some l=>match aD l with
   |some r=>some (r,d)
   |none=>none
  |none=>none)=bd (sr P ρ d.get fn.results.toList) λl=>bd (aD l) λr=>some (r,d)
 rw[LF g];cases sr P ρ d.get fn.results.toList with
 |none=>rfl
 |some l=>
  show(match aD l with
   |some r=>some (r,d)
   |none=>none)=bd (aD l) λr=>some (r,d)
  cases aD l<;>rfl
end
def lu(k:EK)(x y:T):Option T:=match yt k x y with | some b=>some (B b) | none=>none
def xN(k:EK)(x y:T):Option T:=match yt k x y with | some b=>some (B (!b)) | none=>none
def look(k:KK)(ok:Bool)(z:V)(m q:T)(g:Mem):Option T:=if isKey k q then jt ok z m q g else none
def G3(k:KK)(m q x:T)(σ:St):Option (T×St):=if isKey k q then kG m q x σ else none
def PU(k:KK)(m q:T)(σ:St):Option (T×St):=if isKey k q then mj m q σ else none
abbrev MB:=Option (er×(Nat->T))
def a6(l:List S):MB:=some (.K true l,λn=>Z (.ptr n 0))
def b6(x:T):MB:=match x with
 | .v y=>some (.K true y.cells,λn=>Z (.ptr n 0))
 |_=>none
def aN(len:Nat)(x:Option (List S)):MB:=match x with
 |some l=>some (.K true l,λk=>Z (.sl k 0 len (.known len)))
 |none=>none
def Oh:MB:=some (.map [],λn=>Z (.map n))
def BI(n by_:Nat)(z:List S)(l c:T):MB:=match l,c with
 | .v (.s (.int _ l)),.v (.s (.int _ c))=>if z.length=n/\0<=l/\l<=c/\c<=2 ^ 62/\by_*c<=2 ^ 48 then
  some (.K true (eD c.toNat z),λk=>Z (.sl k 0 l.toNat (.known c.toNat)))
  else none
 |_,_=>none
def zg(x:T):MB:=match x with
 | .v (.s (.str l))=>some (.mark (iQ l),λk=>Z (.sl k 0 l.length (.grown 1)))
 |_=>none
def dyn(P:Program)(aC:bc)(f:T)(args:List T)(σ:St):Option (T×St):=match f with
 | .v (.s (.jX g c))=>if fO P g then aC g (args++c.map yF) σ else wz P g (args++c.map yF) σ
 |_=>none
def wC(k n:Nat)(x:MB)(r:List (Nat×Nat×er)):List (Nat×Nat×er):=match x with
 |some (b,_)=>(k,n,b)::r
 |none=>r
def rT(t:T)(x:Option (List T)):Option (List T):=match x with
 |some l=>some (t::l)
 |none=>none
def rC(x:Option T)(y:Option (List T)):Option (List T):=match x,y with
 |some x,some l=>some (x::l)
 |_,_=>none
noncomputable def gA(P:Program)(N:Nat)(fq:bc):Nat->bc
 | 0=>λ_ _ _=>none
 |d+1=>λf args σ=>match fq f args σ with
  |some r=>some r
  |none=>match P.funcs[f]? with
   |none=>none
   |some fn=>match fn.body.isSome&&Nat.ble args.length fn.ntmps with
    |true=>sN P (gA P N fq d) N fn args σ
    |false=>none
theorem ak{P:Program}{N:Nat}{fq:bc}{d:Nat}{f:FuncId}{fn:Func}{args:List T}{σ:St}(c:fq f args σ=none)(a:P.funcs[f]? = some fn)
 (b:(fn.body.isSome&&Nat.ble args.length fn.ntmps)=true):gA P N fq (d+1) f args σ=sN P (gA P N fq d) N fn args σ:=by
 rw[gA];simp only[c,a,b]
theorem ya{P:Program}{N:Nat}{fq:bc}{d:Nat}{f:FuncId}{args:List T}{σ:St}{r:T×St}(h:gA P N fq (d+1) f args σ=some r) :
 fq f args σ=some r\/body P (gA P N fq d) N f args σ=some r:=by
 simp only[gA]at h;split at h
 ·rename_i q c;cases h;exact .inl c
 ·split at h
  ·cases h
  ·rename_i fn b;split at h
   ·rename_i a;rw[aM]at a;exact .inr ((MJ b a.1 a.2).trans h)
   ·cases h
theorem jr{P:Program}{fq:bc}(k:aS P fq)(N:Nat):∀d,aS P (gA P N fq d):=by
 intro d;induction d with
 |zero=>exact⟨(λf e σ t g h=>by cases h),(λf e σ t g h=>by cases h)⟩
 |succ d n=>
  have j:=CP n N;constructor
  ·intro f e σ t g h c;rcases ya h with h | h
   ·exact k.wf _ _ _ _ _ h c
   ·exact j.wf _ _ _ _ _ h c
  ·intro f e σ t g h c;rcases ya h with h | h
   ·exact k.calls _ _ _ _ _ h c
   ·exact j.calls _ _ _ _ _ h c
def pR:bc:=λ_ _ _=>none
theorem tm(P:Program)(N d:Nat):aS P (gA P N pR d):=jr mK N d
def C6(b:Bool)(x:Option (T×St)):Bool:=match x with
 |some (.v (.s (.bool c)),_)=>c == b
 |_=>false
theorem GJ{b:Bool}{x:Option (T×St)}(h:C6 b x=true):∃a,x=some (B b,a):=by
 unfold C6 at h;split at h
 ·rename_i c a;have:c=b:=by simpa using h
  subst this;exact⟨a,rfl⟩
 ·cases h
def zo:S->Bool
 | .bool _ | .int _ _ | .str _ | .c9 | .av | .pb | .wO | .k5=>true
 | .jX _ c=>c.isEmpty
 |_=>false
def Dy:V->Bool
 | .s x=>zo x
 | .agg l=>l.all zo
def mO:T->Bool
 | .any=>false
 | .v x=>Dy x
 | .c6 l=>l.all Dy
theorem vL{x:S}{v:Value}{ι κ:cV}(c:zo x=true)(h:bG ι x v):bG κ x v:=by
 cases x with
 |ptr i o=>cases c
 |sl i o len cap=>cases c
 |emp i e=>cases c
 |map i=>cases c
 |H0 t i n=>cases c
 |buf e i n=>cases c
 |jX f d=>
  cases d with
  |nil=>
   obtain⟨cs,e,r⟩:=h;cases r;exact⟨[],e,.nil⟩
  |cons a l=>cases c
 |_=>exact h
theorem Dx{l:List S}{vs:List Value}{ι κ:cV}(c:l.all zo=true)(h:bC (bG ι) l vs):bC (bG κ) l vs:=by
 induction h with
 |nil=>exact .nil
 |cons a _ d=>
  simp only[nq,aM]at c;exact .cons (vL c.1 a) (d c.2)
theorem vN{x:V}{v:Value}{ι κ:cV}(c:Dy x=true)(h:cz ι x v):cz κ x v:=by
 cases x with
 |s x=>exact vL c h
 |agg l=>obtain⟨cs,e,r⟩:=h;exact⟨cs,e,Dx c r⟩
theorem vM{x:T}{v:Value}{ι κ:cV}(c:mO x=true)(h:aT ι x v):aT κ x v:=by
 cases x with
 |any=>cases c
 |v x=>exact vN c h
 |c6 l=>
  obtain⟨cs,e,r⟩:=h;refine⟨cs,e,?_⟩;clear e;simp only[mO]at c;induction r with
  |nil=>exact .nil
  |cons a _ d=>
   simp only[nq,aM]at c;exact .cons (vN c.1 a) (d c.2)
theorem Dz{d:List T}{vs:List Value}{ι κ:cV}(c:d.all mO=true)(h:bC (aT ι) d vs):bC (aT κ) d vs:=by
 induction h with
 |nil=>exact .nil
 |cons a _ e=>
  simp only[nq,aM]at c;exact .cons (vM c.1 a) (e c.2)
def fU(aC:bc)(fs:List Nat):bc:=λf c σ=>
 match fs.contains f&&c.all mO with
 |false=>none
 |true=>match aC f c St.empty with
  |none=>none
  |some (r,_)=>match mO r with
   |true=>some (r,σ)
   |false=>none
theorem vP{aC:bc}{fs:List Nat}{f:FuncId}{b:List T}{σ d:St}{r:T}(h:fU aC fs f b σ=some (r,d)) :
 d=σ/\b.all mO=true/\mO r=true/\∃a,aC f b St.empty=some (r,a):=by
 unfold fU at h;split at h
 ·cases h
 ·rename_i c;rw[aM]at c;split at h
  ·cases h
  ·rename_i q a g;split at h
   ·rename_i e;cases h;exact⟨rfl,c.2,e,a,g⟩
   ·cases h
theorem lG{P:Program}{aC:bc}(I:aS P aC)(fs:List Nat):aS P (fU aC fs):=by
 constructor
 ·intro f y σ t J h z;obtain⟨rfl,_⟩:=vP h;exact⟨z,au _⟩
 ·intro f y σ t J h z ι w vs q Q C;obtain⟨rfl,G,H,x,B⟩:=vP h;refine(I.calls f y St.empty t x B St.rl (λ_=>none) w vs ⟨(λi L b h=>by cases h),(λi j L M h=>by cases h),(λi n vs h=>by cases h)⟩ (λ_ _ _=>rfl) (Dz G C)).mono ?_;intro e u ⟨κ,v,F,o,_,D⟩;have c:∀k,k<w.heap.size->u.heap[k]? = w.heap[k]? := λk r=>o.keep k r λi L hi=>by cases hi
  refine⟨ι,v,F,⟨au _,λ_ _=>rfl,λ_ _ h=>h,λ_ _ h=>h,λ_ _ _=>rfl,λi L N O=>by omega,o.os,o.output,o.hsize,λk r _=>c k r⟩,⟨?_,q.sep,q.eb⟩,vM H D⟩;intro i L b hi E;have d:=q.blk i L b hi E;cases b with
  |dead=>trivial
  |K own vs=>exact d.congr (c _ (d.lt trivial))
  |map es=>exact d.congr (c _ (d.lt trivial))
  |eb g vs=>exact d.congr (c _ (d.lt trivial))
  |mark vs=>exact d.congr (c _ (d.lt trivial))
def nF(f:Nat)(b:Bool):bc:=λg c σ=>match Nat.beq g f&&c.isEmpty with
 |true=>some (B b,σ)
 |false=>none
theorem wo{P:Program}{c d:bc}(h:∀f a σ r,c f a σ=some r->d f a σ=some r)(g:aS P d):aS P c:=
 ⟨λf a σ t b e=>g.wf f a σ t b (h f a σ _ e),λf a σ t b e=>g.calls f a σ t b (h f a σ _ e)⟩
theorem Cs{P:Program}{aC:bc}(k:aS P aC){f:Nat}{b:Bool}(h:C6 b (aC f [] St.empty)=true):aS P (nF f b):=by
 refine wo ?_ (lG k [f]);intro g l σ r e;unfold nF at e;split at e
 ·rename_i a;rw[aM]at a;have d:=dY a.1;have i:l=[]:=by simpa using a.2
  subst d;subst i;cases e;unfold C6 at h;split at h
  ·rename_i c m j;have:c=b:=by simpa using h
   subst this;simp only[fU,j,List.contains_cons,beq_self_eq_true,Bool.true_or,Eh,Bool.and_self];rfl
  ·cases h
 ·cases e
def xR(a b:bc):bc:=λf c σ=>match a f c σ with
 |some r=>some r
 |none=>b f c σ
theorem ix{P:Program}{a b:bc}(g:aS P a)(i:aS P b):aS P (xR a b):=by
 constructor
 ·intro f c σ t d h;unfold xR at h;split at h
  ·rename_i r e;cases h;exact g.wf f c σ t d e
  ·exact i.wf f c σ t d h
 ·intro f c σ t d h;unfold xR at h;split at h
  ·rename_i r e;cases h;exact g.calls f c σ t d e
  ·exact i.calls f c σ t d h
theorem dG{a b:bc}{f:FuncId}{c:List T}{σ:St}{r:T×St}(h:a f c σ=some r):xR a b f c σ=some r:=by
 simp only[xR,h]
theorem bA{a b:bc}{f:FuncId}{c:List T}{σ:St}(h:a f c σ=none):xR a b f c σ=b f c σ:=by
 simp only[xR,h]
theorem jm{aC:bc}{fs:List Nat}{f:FuncId}{a:List T}{σ:St}{r:T}(b:(fs.contains f&&a.all mO)=true)(h:Option.map Prod.fst (aC f a St.empty)=some r)(c:mO r=true) :
 fU aC fs f a σ=some (r,σ):=by
 rw[o6]at h;obtain⟨x,h,rfl⟩:=h;simp only[fU,b,h,c]
theorem nz{α:Sort _}{a b:α}(h:a=b):a=b:=h
section
variable {α R:Type}
@[simp] theorem dt (a:α) (K:α->Option R):bd (some a) K=K a:=nz rfl
@[simp] theorem Q1 (K:α->Option R):bd none K=none:=nz rfl
@[simp] theorem fN (t:T) (τ:St) (K:T->St->Option R):ax (some (t,τ)) K=K t τ:=nz rfl
@[simp] theorem QE (K:T->St->Option R):ax none K=none:=nz rfl
@[simp] theorem fk (x y:Option R):br (B true) x y=x:=nz rfl
@[simp] theorem iF (x y:Option R):br (B false) x y=y:=nz rfl
@[simp] theorem jk (v:List T) (τ:St) (f:List T->St->Option R) (g:Nat->List T->St->Option R) (h:T->St->Option R):jn (some (.normal v,τ)) f g h=f v τ:=nz rfl
@[simp] theorem Rg (i:Nat) (v:List T) (τ:St) (f:List T->St->Option R) (g:Nat->List T->St->Option R) (h:T->St->Option R):jn (some (.exit i v,τ)) f g h=g i v τ:=nz rfl
@[simp] theorem RC (r:T) (τ:St) (f:List T->St->Option R) (g:Nat->List T->St->Option R) (h:T->St->Option R):jn (some (.ret r,τ)) f g h=h r τ:=nz rfl
@[simp] theorem Rh (f:List T->St->Option R) (g:Nat->List T->St->Option R) (h:T->St->Option R):jn none f g h=none:=nz rfl
@[simp] theorem ES (b w:Bool):gd (B b) w=some (b == w):=nz rfl
@[simp] theorem qD (x:Option T):gT (some true) x=x:=nz rfl
@[simp] theorem qC (x:Option T):gT (some false) x=some tt:=nz rfl
@[simp] theorem Rb (σ:St) (x:Option (T×St)):gS (some true) σ x=x:=nz rfl
@[simp] theorem QI (σ:St) (x:Option (T×St)):gS (some false) σ x=some (tt,σ):=nz rfl
@[simp] theorem Q4 (x:Option R):ck true x=x:=nz rfl
@[congr] theorem Q0 {x y:Option α} {K:α->Option R} (h:x=y):bd x K=bd y K:=by rw[h]
@[congr] theorem QD {x y:Option (T×St)} {K:T->St->Option R} (h:x=y):ax x K=ax y K:=by rw[h]
@[congr] theorem Q2 {x y:T} {u v:Option R} (h:x=y):br x u v=br y u v:=by rw[h]
@[congr] theorem Rc {x y:Option Bool} {z:Option T} (h:x=y):gT x z=gT y z:=by rw[h]
@[congr] theorem Ra {x y:Option Bool} {σ:St} {z:Option (T×St)} (h:x=y):gS x σ z=gS y σ z:=by rw[h]
@[congr] theorem Q3 {x y:Bool} {z:Option R} (h:x=y):ck x z=ck y z:=by rw[h]
def jE(i:Nat)(v:List T)(s:St):Option (JO×St):=some (.exit i v,s)
def jR(r:T)(s:St):Option (JO×St):=some (.ret r,s)
def jT(r:T)(s:St):Option (T×St):=some (r,s)
def jN(i:Nat)(v:List T)(s:St):Option R:=none
def jM(l v:List T)(s:St):Option (JO×St):=some (.normal l,s)
def jZ(i:Nat)(v:List T)(s:St):Option (JO×St):=if i=0 then some (.normal v,s)else some (.exit i v,s)
def vq(v:List T)(n:Nat):T:=v.getD n .any
def gF(c:T)(x:Option T):Option T:=gT (gd c false) x
def gU(c:T)(x:Option T):Option T:=gT (gd c true) x
@[simp] theorem Bw (i:Nat) (v:List T) (s:St):jE i v s=some (.exit i v,s):=nz rfl
@[simp] theorem R2 (r:T) (s:St):jR r s=some (.ret r,s):=nz rfl
@[simp] theorem R3 (r:T) (s:St):jT r s=some (r,s):=nz rfl
@[simp] theorem R1 (i:Nat) (v:List T) (s:St):(jN i v s:Option R)=none:=nz rfl
@[simp] theorem RZ (l v:List T) (s:St):jM l v s=some (.normal l,s):=nz rfl
@[simp] theorem R4 (i:Nat) (v:List T) (s:St):jZ i v s=if i=0 then some (.normal v,s)else some (.exit i v,s):=nz rfl
@[simp] theorem ou (v:List T) (n:Nat):vq v n=v.getD n .any:=nz rfl
@[simp] theorem nT (c:T) (x:Option T):gF c x=gT (gd c false) x:=nz rfl
@[simp] theorem nU (c:T) (x:Option T):gU c x=gT (gd c true) x:=nz rfl
@[congr] theorem Q9 {x y:T} {z:Option T} (h:x=y):gF x z=gF y z:=by rw[h]
@[congr] theorem Re {x y:T} {z:Option T} (h:x=y):gU x z=gU y z:=by rw[h]
def nm(l:List T)(s:St):Option (JO×St):=some (.normal l,s)
def pT(c x:T):Option T:=nv c (B true) x
def pF(c x:T):Option T:=nv c x (B false)
@[simp] theorem vD (l:List T) (s:St):nm l s=some (.normal l,s):=nz rfl
@[simp] theorem oa (c x:T):pT c x=nv c (B true) x:=nz rfl
@[simp] theorem n4 (c x:T):pF c x=nv c x (B false):=nz rfl
abbrev gI:=bc->Nat->List T->St->Option (JO×St)
abbrev Qi:=bc->Nat->St->Option (T×St)
abbrev fh:=bc->Nat->T->St->Option (T×St)
abbrev iA:=bc->Nat->T->T->St->Option (T×St)
abbrev F4:=bc->Nat->T->T->T->St->Option (T×St)
abbrev QY:=bc->Nat->T->T->T->T->St->Option (T×St)
abbrev RU:=bc->Nat->T->T->T->T->T->St->Option (T×St)
@[simp] theorem eo (a b:T):nv (B true) a b=some a:=nz rfl
@[simp] theorem jg (a b:T):nv (B false) a b=some b:=nz rfl
@[simp] theorem Ay (i o:Nat):ba (Z (.ptr i o))=some (Z (.ptr i o)):=nz rfl
@[simp] theorem Q7:lu .p (Z .c9) (Z .c9)=some (B true):=nz rfl
@[simp] theorem Q8 (i o:Nat):lu .p (Z (.ptr i o)) (Z .c9)=some (B false):=nz rfl
@[simp] theorem Rj:xN .p (Z .c9) (Z .c9)=some (B false):=nz rfl
@[simp] theorem Rk (i o:Nat):xN .p (Z (.ptr i o)) (Z .c9)=some (B true):=nz rfl
@[simp] theorem QG (a b:Bool):lu .b (B a) (B b)=some (B (decide (a=b))):=nz rfl
@[simp] theorem QK (a b:Bool):xN .b (B a) (B b)=some (B (!decide (a=b))):=nz rfl
@[simp] theorem Im (k i o:Nat):ab k (Z (.ptr i o))=some (Z (.ptr i (o+k))):=nz rfl
@[simp] theorem QZ (b:Bool):gH .not (B b)=some (B (!b)):=nz rfl
@[simp] theorem aY (k q:IntKind) (n:Int):az k (I q n)=some (I k (k.wrap n)):=nz rfl
@[simp] theorem zc (k:IntKind) (a b:Int):ah .lss (I k a) (I k b)=some (B (decide (a<b))):=by simp[ah,pH]
@[simp] theorem ud (k:IntKind) (a b:Int):ah .leq (I k a) (I k b)=some (B (decide (a<=b))):=by simp[ah,pH]
@[simp] theorem oN (k:IntKind) (a b:Int):ah .gtr (I k a) (I k b)=some (B (decide (b<a))):=by simp[ah,pH]
@[simp] theorem Rf (k:IntKind) (a b:Int):ah .geq (I k a) (I k b)=some (B (decide (b<=a))):=by simp[ah,pH]
@[simp] theorem eS (k:IntKind) (a b:Int):ah .eql (I k a) (I k b)=some (B (decide (a=b))):=by simp[ah,pH]
@[simp] theorem Rl (k:IntKind) (a b:Int):ah .neq (I k a) (I k b)=some (B (!decide (a=b))):=by simp[ah,pH]
@[simp] theorem cw (k:IntKind) (a b:Int):ah .add (I k a) (I k b)=some (I k (k.wrap (a+b))):=by simp[ah,pH]
@[simp] theorem iR (k:IntKind) (a b:Int):ah .sub (I k a) (I k b)=some (I k (k.wrap (a-b))):=by simp[ah,pH]
@[simp] theorem zf (k:IntKind) (a b:Int):ah .mul (I k a) (I k b)=some (I k (k.wrap (a*b))):=by simp[ah,pH]
theorem zu(k:IntKind)(a b:Int)(h:b≠0):ah .rem (I k a) (I k b)=some (I k (a.tmod b)):=by simp[ah,pH,h]
theorem OG(k:IntKind)(a b:Int)(h:b≠0):ah .quo (I k a) (I k b)=some (I k (k.wrap (a.tdiv b))):=by simp[ah,pH,h]
@[simp] theorem Ql (k q:IntKind) (a b:Int):kz l3 (I k a) [I q b]=some (I k (min a b)):=by
  have h:(if b<a then b else a)=min a b:=by split<;>omega
  show some (I k (if b<a then b else a))=_
  rw[h]
@[simp] theorem Qk (k q:IntKind) (a b:Int):kz xc (I k a) [I q b]=some (I k (max a b)):=by
  have h:(if a<b then b else a)=max a b:=by split<;>omega
  show some (I k (if a<b then b else a))=_
  rw[h]
theorem ag{g:Mem}{i o:Nat}{own:Bool}{vs:List S}{x:S}(h:g i=some (.K own vs))(a:vs[o]? = some x):aa (Z (.ptr i o)) g=some (Z x):=by
 simp[aa,h,a]
theorem aJ{σ:St}{i o:Nat}{vs:List S}{x:S}(h:σ.get i=some (.K true vs))(a:o<vs.length):aj 1 (Z (.ptr i o)) (Z x) σ=some (tt,σ.set i (.K true (aQ vs o [x]))):=by
 simp[aj,h,V.cells];omega
end
theorem ep{P:Program}{N:Nat}{fq:bc}{d:Nat}{f:FuncId}{args:List T}{σ:St}{r:T×St}(h:fq f args σ=some r):gA P N fq (d+1) f args σ=some r:=by
 simp only[gA,h]
end Go.Abs.F
namespace Go.Abs
@[simp] theorem St.size_empty:St.empty.size=0:=rfl
end Go.Abs
namespace Go.Abs.F
open Go Go.Abs
theorem Bq{P:Program}{aC fq:bc}(O:aS P aC)
 (H:∀f j σ r,fq f j σ=some r->∃(i o n e q:Nat) (d:List T) (b:er) (y:St),j=Z (.sl i o n (.grown e))::d/\σ.get i=some b/\r=(Z (.sl i o q (.grown e)),y) ∧
  ∀c,n<=c->aC f (Z (.sl i o n (.known c))::d) σ=some (Z (.sl i o q (.known c)),y)):aS P fq:=by
 constructor
 ·intro f j σ t y h x;obtain⟨i,o,n,e,q,d,b,G,rfl,J,E,C⟩:=H f j σ _ h;cases E;exact O.wf _ _ _ _ _ (C n (au _)) x
 ·intro f j σ t y h x ι w vs S R Q;obtain⟨i,o,n,e,q,d,b,G,rfl,J,E,C⟩:=H f j σ _ h;cases E;cases Q with
  |cons X g=>
   obtain⟨L,c,z,rfl,N,F⟩:=X;refine(O.calls _ _ _ _ _ (C c N) x ι w _ S R (.cons ⟨L,z,rfl,N⟩ g)).mono ?_;intro ex u ⟨κ,v,V,I,B,U⟩;refine⟨κ,v,V,I,B,?_⟩;obtain⟨Y,k,rfl,D⟩:=U;have:κ i=ι i:=I.agree i (.inl (x.lt J));rw[this,z]at k;cases k;exact⟨L,c,by rw[this];exact z,rfl,D,F⟩
def rM(c e:Nat)(z:List S):bc:=λf d σ=>match Nat.beq f c with
 |false=>none
 |true=>match d with
  | [.v (.s (.sl i o n (.grown q))),.v (.s (.int .i64 a)),.v (.s (.int .i64 b))]=>match σ.get i with
    |some (.K true vs)=>match decide (q=e/\0<=a/\b=a+1/\b<=n/\n<=1000000/\o+n*e<=vs.length)with
     |true=>some (Z (.sl i o (n-1) (.grown e)),(σ.set i (.K true (aQ vs (o+a.toNat*e) ((vs.drop (o+(a.toNat+1)*e)).take ((n-1-a.toNat)*e))))).set i (.K true (aQ (aQ vs (o+a.toNat*e) ((vs.drop (o+(a.toNat+1)*e)).take ((n-1-a.toNat)*e))) (o+(n-1)*e) z)))
     |false=>none
    |_=>none
  |_=>none
def o9(d e:Nat):bc:=λf g σ=>match Nat.beq f d with
 |false=>none
 |true=>match g with
  | [.v (.s (.sl i o n (.grown q))),.v (.s (.int .i64 k)),.v (.s (.sl j p m (.known c)))]=>match σ.get i,σ.get j with
    |some (.K true vs),some (.K true us)=>match decide (q=e/\o=0/\0<=k/\k<n/\m=1/\c=1/\n<=1000000/\n*e<=vs.length/\i≠j/\p+e<=us.length/\e≠0)with
     |true=>some (Z (.sl σ.size 0 (n+1) (.grown e)),(σ.set i .dead).push (.K true (vs.take (k.toNat*e)++(us.drop p).take e++(vs.drop (k.toNat*e)).take ((n-k.toNat)*e))))
     |false=>none
    |_,_=>none
  |_=>none
theorem B6{ι:cV}{g h:Mem}{w:World}(e:∀k,h k=g k)(a:Rel ι g w):Rel ι h w:=by
 have:h=g:=funext e;rw[this];exact a
theorem A6{ι κ:cV}{σ τ RR:St}{w u:World}(e:∀k,RR.get k=τ.get k)(z:RR.size=τ.size)(h:Ext ι σ w κ τ u):Ext ι σ w κ RR u where
 size:=by rw[z];exact h.size
 agree:=λi hi=>h.agree i (by rwa [z]at hi)
 own:=λi hi hl=>h.own i hi (by rwa [e]at hl)
 hold:=λi hi hl=>h.hold i hi (by rwa [e]at hl)
 ghost:=λi hi hn=>by rw[e];exact h.ghost i hi hn
 fresh:=λi L h1 h2 hL hl=>h.fresh i L h1 (by rwa [z]at h2) hL (by rwa [e]at hl)
 os:=h.os
 output:=h.output
 hsize:=h.hsize
 keep:=h.keep
theorem I2{ι κ:cV}{σ x:St}{w u:World}{i:Nat}{L:Loc}{vs us:List S}(F:ι i=some L)(t:σ.get i=some (.K true vs))(h:Ext ι (σ.set i (.K true us)) w κ x u):Ext ι σ w κ x u:=by
 have n:∀k,k≠i->(σ.set i (.K true us)).get k=σ.get k:=λk c=>St.bO c
 have r:∀k,live ((σ.set i (.K true us)).get k)->live (σ.get k):=λk c=>by
  by_cases e:k=i
  ·subst e;rw[t];trivial
  ·rwa [n k e]at c
 have G:∀k,live (σ.get k)->live ((σ.set i (.K true us)).get k):=λk c=>by
  by_cases e:k=i
  ·subst e;rw[St.get_set_same];trivial
  ·rwa [n k e]
 refine⟨h.size,h.agree,λk c d=>r k (h.own k c d),λk c d => ?_,λk c g => ?_,λk M D E o d => ?_,h.os,h.output,h.hsize,λb q g=>h.keep b q λk M c o d=>g k M c o (r k d)⟩
 ·by_cases e:k=i
  ·subst e;rw[t];trivial
  ·have:=h.hold k c d
   rwa [n k e]at this
 ·by_cases e:k=i
  ·subst e;rw[F]at g;cases g
  ·rw[h.ghost k c g,n k e]
 ·rcases h.fresh k M D E o d with f | ⟨j,N,y,z,B,C⟩
  ·exact .inl f
  ·exact .inr ⟨j,N,y,z,B,r j C⟩
theorem LC{ι:cV}{σ:St}{w:World}{i:Nat}{L:Loc}{vs:List S}{m q:Nat}(n:Rel ι σ.get w)(A:ι i=some L)(s:σ.get i=some (.K true vs))(I:m<=vs.length)(J:L.base+m+q<=L.size) :
 Rel ι (σ.set i (.K true (vs.take m++List.replicate q .any))).get w:=by
 have o:∀k,k≠i->(σ.set i (.K true (vs.take m++List.replicate q .any))).get k=σ.get k:=λk d=>St.bO d
 refine⟨λk M b h a => ?_,λk j M N h D G E v => ?_,λk g us d => ?_⟩
 ·by_cases e:k=i
  ·subst e;rw[St.get_set_same]at a;cases a;rw[A]at h;cases h;obtain⟨c,el,B,p,r,H,C,z⟩:=n.blk k L _ A s;have u:(vs.take m).length=m:=by rw[bb];omega
   refine⟨c,el,B,p,r,by simp;omega,λj x f => ?_,z⟩;by_cases F:j<m
   ·rw[kx (by omega),mX,af F]at f;exact C j x f
   ·rw[ky (by omega),u]at f
    have t:j-m<q:=by
     have:=(bq.1 f).1
     simpa using this
    have y:x = .any:=by
     rw[uw,af t]at f;cases f;rfl
    subst y;have l:L.base+j<c.size:=(by omega);exact⟨c[L.base+j],F1 l,(z rfl).2 _ _ (F1 l)⟩
  ·rw[o k e]at a;exact n.blk k M b h a
 ·have p:live (σ.get k):=by
   by_cases e:k=i
   ·subst e;rw[s];trivial
   ·rwa [o k e]at G
  have r:held (σ.get j):=by
   by_cases e:j=i
   ·subst e;rw[s];trivial
   ·rwa [o j e]at E
  exact n.sep k j M N h D p r v
 ·by_cases e:k=i
  ·subst e;rw[St.get_set_same]at d;cases d
  ·rw[o k e]at d;exact n.eb k g us d
theorem r6{P:Program}{aC:bc}{Sp e:Nat}(hs:aS P aC)
 (H1:∀(σ:St) (i n k j p:Nat) (vs us:List S),σ.wf->σ.get i=some (.K true vs)->σ.get j=some (.K true us)->k<n->n<=1000000->n*e<=vs.length->i≠j->p+e<=us.length →
  ∃d,aC Sp [Z (.sl i 0 n (.known n)),I .i64 k,Z (.sl j p 1 (.known 1))] σ=some (Z (.sl σ.size 0 (n+1) (.grown e)),d)/\d.size=σ.size+1/\d.get σ.size=some (.K true (vs.take (k*e)++(us.drop p).take e++(vs.drop (k*e)).take ((n-k)*e)))/\∀b,b<σ.size->d.get b=σ.get b)
 (H2:∀(σ:St) (i n k j p c:Nat) (vs us:List S),σ.get i=some (.K true vs)->σ.get j=some (.K true us)->k<n->n<=1000000->n+1<=c->vs.length=c*e->i≠j->p+e<=us.length →
  ∃d B,aC Sp [Z (.sl i 0 n (.known c)),I .i64 k,Z (.sl j p 1 (.known 1))] σ=some (Z (.sl i 0 (n+1) (.known c)),d)/\d.size=σ.size/\d.get i=some (.K true B)/\B.length=vs.length ∧
   B.take ((n+1)*e)=vs.take (k*e)++(us.drop p).take e++(vs.drop (k*e)).take ((n-k)*e)/\∀b,b≠i->d.get b=σ.get b):aS P (o9 Sp e):=by
 have inv:∀f Sz σ r,o9 Sp e f Sz σ=some r->f=Sp/\∃(i n k j p:Nat) (vs us:List S),Sz=[Z (.sl i 0 n (.grown e)),I .i64 k,Z (.sl j p 1 (.known 1))]/\σ.get i=some (.K true vs)/\σ.get j=some (.K true us)/\k<n/\n<=1000000/\n*e<=vs.length/\i≠j/\p+e<=us.length/\e≠0 ∧
  r=(Z (.sl σ.size 0 (n+1) (.grown e)),(σ.set i .dead).push (.K true (vs.take (k*e)++(us.drop p).take e++(vs.drop (k*e)).take ((n-k)*e)))):=by
  intro f Sz σ r h;unfold o9 at h;split at h
  ·cases h
  ·rename_i SP;refine⟨dY SP,?_⟩;split at h
   ·rename_i i o n q k j p m c;split at h
    ·rename_i vs us hi hj;split at h
     ·rename_i hd;obtain⟨rfl,rfl,h0,h1,rfl,rfl,h2,h3,h4,h5,h6⟩:=fL hd;cases h;obtain⟨k',rfl⟩:∃k':Nat,k=k':=⟨k.toNat,by omega⟩;exact⟨i,n,k',j,p,vs,us,rfl,hi,hj,by omega,h2,h3,h4,h5,h6,by rw[iY]⟩
     ·cases h
    ·cases h
   ·cases h
 constructor
 ·intro f Sz σ t d h R;obtain⟨rfl,i,n,k,j,p,vs,us,rfl,hi,hj,_,_,_,_,_,_,hr⟩:=inv _ _ _ _ h;cases hr;exact⟨St.bo (St.wf_set R (R.lt hi) _) _,by simp⟩
 ·intro f Sz σ t d h R ι w args hR hF hA;obtain⟨rfl,i,n,k,j,p,vs,us,rfl,hi,hj,Sl,hn,U,Sk,hp,SO,hr⟩:=inv _ _ _ _ h;cases hr;obtain⟨Es,J⟩:=aZ (vs.take (k*e)++(us.drop p).take e++(vs.drop (k*e)).take ((n-k)*e));rw[<-J]at hF ⊢;have N:=R.lt hi;have Sj:ι σ.size=none:=hF σ.size (au _) (by simp);cases hA with
  |cons hx O=>
   obtain⟨L,c,X,rfl,Sw,SH⟩:=hx;have SN:=hR.blk i L _ X hi;by_cases hc:n+1<=c
   ·-- there is room
    have H:L.base+n*e+(c-n)*e<=L.size:=by
     have:n*e+(c-n)*e=c*e:=(by rw[<-bJ];congr 1;omega);omega
    have Su:=LC hR X hi U H;obtain⟨vw,Sn⟩:=aZ (vs.take (n*e)++List.replicate ((c-n)*e) S.any);rw[<-Sn]at Su
    have SI:vw.length=c*e:=by
     rw[Sn];simp only[aI,bb,List.length_replicate];have:n*e+(c-n)*e=c*e:=(by rw[<-bJ];congr 1;omega);omega
    have SF:(σ.set i (.K true vw)).get j=some (.K true us):=(by rw[St.bO (λh=>Sk h.symm)];exact hj);obtain⟨d,B,D,y,F,SL,hB,G⟩:=H2 (σ.set i (.K true vw)) i n k j p c vw us (St.dh) SF Sl hn hc SI Sk hp;have SQ:(k+1)*e<=n*e:=dx _ Sl;have SJ:k*e<=n*e:=dx _ (by omega);have SR:k*e+(n-k)*e=n*e:=by rw[<-bJ];congr 1;omega
    have Sr:B.take ((n+1)*e)=Es:=by
     rw[hB,J,Sn]
     have h1:(vs.take (n*e)++List.replicate ((c-n)*e) S.any).take (k*e)=vs.take (k*e):=by
      rw[lL (by rw[bb];omega),gm]
      congr 1;omega
     have h2:((vs.take (n*e)++List.replicate ((c-n)*e) S.any).drop (k*e)).take ((n-k)*e)=(vs.drop (k*e)).take ((n-k)*e):=by
      rw[Em (by rw[bb];omega),lL (by rw[fK,bb];omega),nr,gm]
      congr 1;omega
     rw[h1,h2]
    have SB:kE ι (σ.set i (.K true vw)).size d.size:=λq h1 h2=>by simp at h1 y;omega
    refine(hs.calls _ _ _ _ _ D (St.wf_set R N _) ι w _ Su SB (.cons ⟨L,X,rfl,Sw⟩ O)).mono ?_;rintro ex u ⟨κ,v,rfl,hX,T,hT⟩;have SC:=I2 X hi hX;have E:κ i=some L:=(by rw[hX.agree i (.inl N)];exact X);have Sx:κ σ.size=none:=(by rw[hX.agree σ.size (.inr (by simp at y;omega))];exact Sj);have C:d.size=σ.size:=by simpa using y
    have Q:d.wf:=(hs.wf _ _ _ _ _ D (St.wf_set R N _)).1;obtain⟨cc,el,fz,b1,b2,b3,b4,b5⟩:=T.blk i L _ E F
    have hu:({ u with heap:=u.heap.setIfInBounds L.b (.cells cc el fz) }:World)=u:=by
     have hh:u.heap.setIfInBounds L.b (.cells cc el fz)=u.heap:=by
      apply wA;intro q;by_cases H:L.b=q
      ·subst H;rw[b1,sE (iZ.1 b1).1]
      ·rw[mW H]
     rw[hh]
    have SD:fg κ L { u with heap:=u.heap.setIfInBounds L.b (.cells cc el fz) } (.K true Es):=by
     rw[hu];have SM:Es.length<=B.length:=(by rw[<-Sr,bb];omega);refine⟨cc,el,fz,b1,b2,by omega,λq x hx => ?_,b5⟩;rw[<-Sr,mX]at hx;split at hx
     ·exact b4 q x hx
     ·cases hx
    have Sv:=vU (σ:=d) T Q (by rw[C];exact Sx) E F (.cells cc el fz) (M:=L) rfl (.K true Es) SD;rw[hu,C]at Sv;obtain⟨V,Y⟩:=Sv
    have g:∀q,((σ.set i .dead).push (.K true Es)).get q=((d.set i .dead).push (.K true Es)).get q:=λq=>by
     by_cases H:q=σ.size
     ·have SA:((σ.set i .dead).push (.K true Es)).get q=some (.K true Es):=(by rw[H];exact St.bf (σ.set i .dead) _);have SK:((d.set i .dead).push (.K true Es)).get q=some (.K true Es):=(by rw[H,<-C];exact St.bf (d.set i .dead) _);rw[SA,SK]
     ·rw[St.iq (σ.set i .dead) _ (by simpa using H),St.iq (d.set i .dead) _ (by simp;omega)];by_cases z:q=i
      ·rw[z,St.get_set_same,St.get_set_same]
      ·rw[St.bO z,St.bO z,G q z,St.bO z]
    refine⟨_,v,rfl,A6 g (by simp[C]) (SC.trans V),B6 g Y,?_⟩;obtain⟨L',Ss,rfl,SG⟩:=hT;rw[E]at Ss;cases Ss;exact⟨L,c,bX _ _ _,rfl,SG,SH⟩
   ·-- there is none
    have SE:c=n:=(by omega);subst SE
    have Sm:∃d,aC f [Z (.sl i 0 c (.known c)),I .i64 k,Z (.sl j p 1 (.known 1))] σ=some (Z (.sl σ.size 0 (c+1) (.grown e)),d)/\d.size=σ.size+1/\d.get σ.size=some (.K true Es)/\∀b,b<σ.size->d.get b=σ.get b:=by
     rw[J];exact H1 σ i c k j p vs us R hi hj Sl hn U Sk hp
    obtain⟨d,D,y,Sy,G⟩:=Sm;refine(hs.calls _ _ _ _ _ D R ι w _ hR (by rw[y];simpa using hF) (.cons ⟨L,X,rfl,Sw⟩ O)).mono ?_;rintro ex u ⟨κ,v,rfl,hX,T,hT⟩;have E:κ i=some L:=(by rw[hX.agree i (.inl N)];exact X);have F:d.get i=some (.K true vs):=(by rw[G i N];exact hi);have Q:d.wf:=(hs.wf _ _ _ _ _ D R).1;obtain⟨V,Y⟩:=vc T E F
    have g:∀q,((σ.set i .dead).push (.K true Es)).get q=(d.set i .dead).get q:=λq=>by
     by_cases H:q=σ.size
     ·have SA:((σ.set i .dead).push (.K true Es)).get q=some (.K true Es):=(by rw[H];exact St.bf (σ.set i .dead) _);rw[SA,St.bO (by omega),H,Sy]
     ·rw[St.iq (σ.set i .dead) _ (by simpa using H)];by_cases z:q=i
      ·rw[z,St.get_set_same,St.get_set_same]
      ·rw[St.bO z,St.bO z];rcases b9 q σ.size with hl | hl
       ·rw[G q hl]
       ·rw[R q hl,Q q (by omega)]
    exact⟨κ,v,rfl,A6 g (by simp[y]) (hX.trans V),B6 g Y,hT⟩
end Go.Abs.F
