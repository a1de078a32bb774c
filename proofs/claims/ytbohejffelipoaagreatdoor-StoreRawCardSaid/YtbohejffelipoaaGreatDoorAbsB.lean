/-
  A library of our own, several texts in one: an abstract store for the model, and runs over it. Nothing here speaks of any program. No conditions.
-/
import Derived.Test.YtbohejffelipoaaGreatDoorAbsA
import Derived.Lib.AppendZerosOnto
import Derived.Laws.Externs
set_option linter.unusedVariables false
set_option linter.unusedSimpArgs false
set_option maxHeartbeats 4000000
namespace Go.Abs
open Go
def tQ(g:Mem)(n:Nat)(b:er):Mem:=λi=>if i=n then some b else g i
theorem sx(g:Mem)(n:Nat)(b:er):tQ g n b n=some b:=by simp[tQ]
theorem kP(g:Mem){n i:Nat}(b:er)(h:i≠n):tQ g n b i=g i:=by simp[tQ,h]
theorem jo(σ:St)(b:er):(σ.push b).get=tQ σ.get σ.size b:=by
 funext i;rw[St.vt];rfl
structure lP(ι:cV)(w u:World)(L:Loc)(b:er):Prop where
 Iz:L.b=w.heap.size
 os:u.os=w.os
 output:u.output=w.output
 size:u.heap.size=w.heap.size+1
 keep:∀k,k<w.heap.size->u.heap[k]? = w.heap[k]?
 blk:fg ι L u b
theorem lH{ι:cV}{g:Mem}{w u:World}{L:Loc}{b:er}{n:Nat}(h:Rel ι g w)(E:ι n=none)(t:lP ι w u L b):Rel (yj ι n L) (tQ g n b) u:=by
 have o:=y9 L E;constructor
 ·intro i M c k D;by_cases e:i=n
  ·subst e;rw[bX]at k;cases k;rw[sx]at D;cases D;exact t.blk.mono o
  ·rw[gC _ _ e]at k;rw[kP _ _ e]at D;have r:=h.blk i M c k D;cases c with
   |dead=>trivial
   |K own vs=>exact(r.mono o).congr (t.keep _ (r.lt trivial))
   |map es=>exact(r.mono o).congr (t.keep _ (r.lt trivial))
   |eb g vs=>exact(r.mono o).congr (t.keep _ (r.lt trivial))
   |mark vs=>exact(r.mono o).congr (t.keep _ (r.lt trivial))
 ·intro i j M N k d B y C;by_cases e:i=n
  ·subst e;rw[bX]at k;cases k;have z:j≠i:=λx=>C x.symm
   rw[gC _ _ z]at d;rw[kP _ _ z]at y;cases q:g j with
   |none=>rw[q]at y;exact y.elim
   |some c=>
    rw[q]at y;have:=(h.blk j N c d q).lt y;have:=t.Iz;omega
  ·rw[gC _ _ e]at k;rw[kP _ _ e]at B;by_cases z:j=n
   ·subst z;rw[bX]at d;cases d;cases q:g i with
    |none=>rw[q]at B;exact B.elim
    |some c=>
     rw[q]at B;have:=(h.blk i M c k q).lt B.held;have:=t.Iz;omega
   ·rw[gC _ _ z]at d;rw[kP _ _ z]at y;exact h.sep i j M N k d B y C
 ·intro i m vs q;by_cases e:i=n
  ·subst e;exact⟨_,bX _ _ _⟩
  ·rw[kP _ _ e]at q;obtain⟨M,k⟩:=h.eb i m vs q;exact⟨M,by rw[gC _ _ e];exact k⟩
theorem mr{ι:cV}{σ:St}{w u:World}{L:Loc}{b:er}(a:lP ι w u L b):Ext ι σ w (yj ι σ.size L) (σ.push b) u:=by
 refine⟨by simp,?_,?_,?_,?_,?_,a.os,a.output,by rw[a.size];omega,?_⟩
 ·intro i hi;simp only[St.size_push]at hi;exact gC _ _ (by omega)
 ·intro i hi c
  rwa [mH (by omega)]at c
 ·intro i hi c
  rwa [mH (by omega)]at c
 ·intro i hi _;exact mH (by omega)
 ·intro i M g e d c;simp only[St.size_push]at e;have:i=σ.size:=by omega
  subst this;rw[bX]at d;cases d;exact .inl (by rw[a.Iz];exact au _)
 ·intro k f _;exact a.keep k f
def eD(c:Nat)(z:List S):List S:=(List.replicate c z).flatten
def iQ(l:List UInt8):List S:=l.map λb => .int .u8 b.toNat
def Ru(P:Program)(t:TypeId):Bool:=match P.underlying t with
 |some (.struct fs)=>match fs[0]?,fs[1]? with
  |some f,some g=>match P.underlying f.type,P.underlying g.type with
   |some (.pointer u),some (.slice _)=>Nat.beq u t
   |_,_=>false
  |_,_=>false
 |_=>false
def K3(P:Program)(t n m:Nat):T:=match Ru P t with
 |true=>Z (.H0 t n m)
 |false=>Z (.ptr n 0)
def zk(P:Program)(op:Op)(ev:Operand->T):Option (er×(Nat->T)):=
 match op with
 | .alloc t=>match zeroOf P t with
   |some z=>some (.K true z.cells,λn=>K3 P t n z.cells.length)
   |none=>none
 | .box _ x=>match ev x with
   | .v y=>some (.K true y.cells,λn=>Z (.ptr n 0))
   |_=>none
 | .buildSlice t len parts=>match P.underlying t with
   |some (.slice e)=>match dH P e,zeroOf P e with
    |some n,some z=>if z.cells.length=n/\len*n<=2 ^ 24 then
     match aA (eD len z.cells) (oQ n ev parts.toList)with
     |some l=>some (.K true l,λk=>Z (.sl k 0 len (.known len)))
     |none=>none
     else none
    |_,_=>none
   |_=>none
 | .makeMap t r=>match P.underlying t,r with
   |some (.map _ _),none=>some (.map [],λn=>Z (.map n))
   |some (.map _ _),some x=>match ev x with
    | .v (.s (.int _ _))=>some (.map [],λn=>Z (.map n))
    |_=>none
   |_,_=>none
 | .makeSlice t l c=>match P.underlying t with
   |some (.slice e)=>match dH P e,zeroOf P e,yB P e with
    |some n,some z,some by_=>match ev l,ev c with
     | .v (.s (.int _ l)),.v (.s (.int _ c))=>if z.cells.length=n/\0<=l/\l<=c/\c<=2 ^ 62/\by_*c<=2 ^ 48 then
      some (.K true (eD c.toNat z.cells),λk=>Z (.sl k 0 l.toNat (.known c.toNat)))
      else none
     |_,_=>none
    |_,_,_=>none
   |_=>none
 | .convert s d x=>match P.underlying s,P.underlying d with
   |some .string,some (.slice e)=>match P.underlying e with
    |some (.int .u8)=>match ev x with
     | .v (.s (.str l))=>some (.mark (iQ l),λk=>Z (.sl k 0 l.length (.grown 1)))
     |_=>none
    |_=>none
   |_,_=>none
 |_=>none
theorem K8{P:Program}{op:Op}{ev:Operand->T}{n:Nat}{vs:List S}{f:Nat->T}(h:zk P op ev=some (.eb n vs,f)):False:=by
 unfold zk at h
 repeat' split at h
 all_goals simp at h
section
variable {P:Program}{ι:cV}{w:World}{g:Mem}
theorem mg{z:List S}{cs:List Value}(h:bC (bG ι) z cs)(c n:Nat)(w:z.length=n) :
 ∃ds:List Value,(Array.range (c*n)).map (cs.toArray[· % cs.toArray.size]!)=ds.toArray/\bC (bG ι) (eD c z) ds:=by
 have t:=aP h;refine⟨(List.range (c*n)).map (λi=>cs.toArray[i%cs.toArray.size]!),?_,?_⟩
 ·rw[<-List.map_toArray]
  congr 1
  rw[<-iW (xs:=Array.range (c*n)),Array.toList_range]
 ·subst w;induction c with
  |zero=>simp[eD];exact .nil
  |succ c C=>
   have k:eD (c+1) z=eD c z++z:=by
    simp[eD,List.replicate_succ']
   have o:(c+1)*z.length=c*z.length+z.length:=by rw[bJ];omega
   rw[k,o,List.range_add,lK];refine cd C ?_;rw[jy];refine nR (by simp) ?_;intro j x y g d;have e:j<z.length:=(bq.1 g).1;obtain⟨v,B,r⟩:=cr h j x g
   have:y=v:=by
    rw[cL,zG e]at d;simp only[ni,jD,Function.comp]at d;rw[<-d]
    have u:(c*z.length+j)%cs.toArray.size=j:=by
     simp only[FK,<-t];rw[uJ,Nat.mul_add_mod,eU e]
    rw[u];have q:j<cs.length:=(by omega);rw[List.getElem!_toArray];rw[List.getElem!_eq_getElem?_getD,B];rfl
   rw[this];exact r
theorem k4{e:TypeId}{vs:List S}{cs:List Value}(c:bC (bG ι) vs cs)(a:Array Value)(h:∀v∈a.toList,dv v=true)(u:World)(i:u={ w with heap:=w.heap.push (.cells (cs.toArray++a) e (0,0)) }) :
 lP ι w u ⟨w.heap.size,0,cs.length+a.size,e⟩ (.K true vs):=by
 subst i;have d:=aP c;refine⟨rfl,rfl,rfl,by simp,λk g=>BX w _ k g,?_⟩;refine⟨cs.toArray++a,e,(0,0),oR w _,by simp,by simp;omega,?_,λ_=>⟨⟨rfl,rfl,rfl⟩,wF c h⟩⟩;intro j x l;obtain⟨v,b,r⟩:=cr c j x l;refine⟨v,?_,r⟩;have f:j<cs.length:=(bq.1 b).1;simp only[a7];rw[F0 (by simpa using f)]
 simpa using b
theorem q7(e:TypeId)(s:ByteArray)(w:World):∃cap,s.size<=cap ∧
 (Conv.stringToBytes e s).run P w = .ok (.slice (some ⟨w.heap.size,0,none⟩) s.size cap)
  { w with drawn:=w.drawn+1,heap:=w.heap.push (.cells (s.data.map (λb=>Value.int .u8 b.toNat)++Array.replicate (cap-s.size) (.int .u8 0)) e
    ((s.data.map (λb=>Value.int .u8 b.toNat)++Array.replicate (cap-s.size) (Value.int .u8 0)).size,(s.data.map (λb=>Value.int .u8 b.toNat)++Array.replicate (cap-s.size) (Value.int .u8 0)).size+1)) }:=by
 refine⟨s.size+(w.tape w.drawn (.appendCap s.size 0 e))%(2 ^ 63-s.size),by omega,?_⟩;generalize a:s.size+(w.tape w.drawn (.appendCap s.size 0 e))%(2 ^ 63-s.size)=cap
 have d:(choose (.appendCap s.size 0 e)).run P w = .ok cap { w with drawn:=w.drawn+1 }:=by
  simp only[choose,Sem.run,Question.forced,eP,cN,Question.cut,a]
 simp only[Conv.stringToBytes,run_bind,d,newRow,newObj,Sem.run,run_pure,markStringish,shape,World.shape?,oR,freeze,World.freeze];simp only[Nat.one_ne_zero,cN]
 congr 2
 apply wA;intro k;rw[Mt];by_cases c:w.heap.size=k
 ·subst c;simp
 ·rw[ae c,F2,F2,ae (bu c),ae (bu c)]
theorem Ov{o:Oper}{ev:Operand->T}{ρ:Operand->Value}{b:er}{f:Nat->T}(B:∀x∈o.op.operands,aT ι (ev x) (ρ x))(h:zk P o.op ev=some (b,f))(w:World) :
 ∃L v u,(execOp ρ o).run P w = .ok (.value v) u/\lP ι w u L b/\∀n,aT (yj ι n L) (f n) v:=by
 obtain⟨dst,op,ty,pos,after,guard⟩:=o;simp only at B h
 have E:∀(s:Sem Value),execOp ρ ⟨dst,op,ty,pos,after,guard⟩=(do pure (Next.value (<-s)))->(∃L v u,s.run P w = .ok v u/\lP ι w u L b/\∀n,aT (yj ι n L) (f n) v) →
  ∃L v u,(execOp ρ ⟨dst,op,ty,pos,after,guard⟩).run P w = .ok (.value v) u/\lP ι w u L b/\∀n,aT (yj ι n L) (f n) v:=by
  intro s he ⟨L,v,u,h1,h2⟩;refine⟨L,v,u,?_,h2⟩;rw[he];simp only[run_bind,h1,run_pure]
 have O:∀(L:Loc) (n:Nat),L.base=0->aT (yj ι n L) (Z (.ptr n 0)) (.pointer (some ⟨L.b,0,none⟩)):=by
  intro L n D;exact⟨L,bX _ _ _,by rw[D]⟩
 cases op with
 |alloc t=>
  simp only[zk]at h;split at h
  ·rename_i z hz;cases h;obtain⟨zv,G,g⟩:=iO (P:=P) (w:=w) (ι:=ι) hz;have H:=cz.cells g;refine E _ rfl ⟨⟨w.heap.size,0,zv.cells.toList.length+(#[]:Array Value).size,t⟩,.pointer (some ⟨w.heap.size,0,none⟩),_,?_,k4 (e:=t) H #[] (λ_ h=>by cases h) _ rfl,λn => ?_⟩
   rotate_left
   ·unfold K3;split
    ·refine⟨_,bX _ _ _,rfl,rfl,?_,rfl⟩;have:=aP H;simp[this]
    ·exact O _ n rfl
   simp[Instr.alloc,run_bind,G,newVar,newRow,newObj,Sem.run,run_pure]
  ·cases h
 |box t x=>
  have I:=B x (by simp[Op.operands]);simp only[zk]at h;split at h
  ·rename_i y hy;cases h;rw[hy]at I;have H:=cz.cells I;refine E _ rfl ⟨_,_,_,?_,k4 (e:=t) H #[] (λ_ h=>by cases h) _ rfl,λn=>O _ n rfl⟩;simp[Instr.box,run_bind,newVar,newRow,newObj,Sem.run,run_pure]
  ·cases h
 |buildSlice t len parts=>
  simp only[zk]at h;split at h
  ·rename_i e X;split at h
   ·rename_i n z hn hz;split at h
    ·rename_i H;split at h
     ·rename_i l U;cases h;obtain⟨zv,G,g⟩:=iO (P:=P) (w:=w) (ι:=ι) hz;have J:=cz.cells g;have Sy:=aP J;obtain⟨zs,F,Sj⟩:=mg J len n H.1
      have Sk:∀(pp:List (Nat×Operand)),(∀p∈pp,aT ι (ev p.2) (ρ p.2)) →
       bC (λ(a:Nat×Nat×T) (b:Nat×Value)=>(some (b.1*n,n):Option (Nat×Nat))=some (a.1,a.2.1)/\aT ι a.2.2 b.2) (oQ n ev pp) (pp.map λp=>(p.1,ρ p.2)):=by
       intro pp;induction pp with
       |nil=>intro _;exact .nil
       |cons p pp ih=>
        intro B;exact .cons ⟨rfl,B p (by simp)⟩ (ih λq hq=>B q (by simp[hq]))
      obtain⟨ds,Sl,Ss⟩:=rI (ι:=ι) (place:=λi=>some (i*n,n)) (parts.toList.map λp=>(p.1,ρ p.2)) _ (eD len z.cells) zs l
       (Sk parts.toList (λp hp=>B p.2 (by
        simp only[Op.operands,Fx,gl];exact⟨p,hp,rfl⟩))) Sj U
      have e2:(parts.map λp=>(p.1,ρ p.2)).toList=parts.toList.map λp=>(p.1,ρ p.2):=by simp
      refine E _ rfl ⟨_,.slice (some ⟨w.heap.size,0,none⟩) len len,_,?_,k4 (e:=e) Ss #[] (λ_ h=>by cases h) _ rfl,λk=>⟨_,bX _ _ _,rfl,au _⟩⟩
      have C:(zs.toArray:Array Value)=(Array.range (len*n)).map ((if len*n=0 then #[]else zv.cells)[· % (if len*n=0 then #[]else zv.cells).size]!):=by
       by_cases D:len*n=0
       ·rw[D]at F ⊢;rw[<-F];simp
       ·rw[ae D,<-F]
      by_cases D:len*n=0
      ·rw[af D]at C;simp only[Instr.buildSlice,run_bind,aW X,dy hn];rw[ae (by omega)];simp only[run_bind,run_pure,af D,<-C,e2,Sl,newRow,newObj,Sem.run,Fq]
      ·rw[ae D]at C;simp only[Instr.buildSlice,run_bind,aW X,dy hn];rw[ae (by omega)];simp only[run_bind,run_pure,ae D,G,<-C,e2,Sl,newRow,newObj,Sem.run,Fq]
     ·cases h
    ·cases h
   ·cases h
  ·cases h
 |makeMap t r=>
  have Sw:lP ι w { w with heap:=w.heap.push (.map #[] 0) } ⟨w.heap.size,0,0,0⟩ (.map []):=
   ⟨rfl,rfl,rfl,by simp,λk hk=>BX w _ k hk,#[],0,oR w _,.nil,.nil,by simp⟩
  simp only[zk]at h;split at h
  ·rename_i kt et X;cases h;refine E _ rfl ⟨_,_,_,?_,Sw,λn=>⟨_,bX _ _ _,rfl⟩⟩;simp[Instr.makeMap,run_bind,newObj,Sem.run,run_pure]
  ·rename_i kt et x X;split at h
   ·rename_i k n Y;cases h;have I:=B x (by simp[Op.operands]);rw[Y]at I;simp only[aT,cz,bG]at I;refine E _ rfl ⟨_,_,_,?_,Sw,λn=>⟨_,bX _ _ _,rfl⟩⟩;simp[Instr.makeMap,run_bind,aW X,I,asInt,asIntOf,newObj,Sem.run,run_pure]
   ·cases h
  ·cases h
 |makeSlice t l c=>
  have U:=B l (by simp[Op.operands]);have Q:=B c (by simp[Op.operands]);simp only[zk]at h;split at h
  ·rename_i e X;split at h
   ·rename_i n z by_ hn hz Sp;split at h
    ·rename_i kl lv kc cv Sv Sr;split at h
     ·rename_i H;cases h;rw[Sv]at U;rw[Sr]at Q;simp only[aT,cz,bG]at U Q;obtain⟨zv,G,g⟩:=iO (P:=P) (w:=w) (ι:=ι) hz;have J:=cz.cells g;obtain⟨zs,F,Sj⟩:=mg J cv.toNat n H.1;obtain⟨i,hi,Su⟩:=wj (P:=P) (w:=w) Sp;obtain⟨_,Sz,SA,c3,Sx⟩:=H;have wl:IntKind.i64.wrap lv=lv:=IntWalk.i64_in lv (by omega);have wc:IntKind.i64.wrap cv=cv:=IntWalk.i64_in cv (by omega);refine E _ rfl ⟨_,.slice (some ⟨w.heap.size,0,none⟩) lv.toNat cv.toNat,_,?_,k4 (e:=e) Sj #[] (λ_ h=>by cases h) _ rfl,λk=>⟨_,bX _ _ _,rfl,by omega⟩⟩
      have C:(zs.toArray:Array Value)=(Array.range (cv.toNat*n)).map ((if cv.toNat*n=0 then #[]else zv.cells)[· % (if cv.toNat*n=0 then #[]else zv.cells).size]!):=by
       by_cases D:cv.toNat*n=0
       ·rw[D]at F ⊢;rw[<-F];simp
       ·rw[ae D,<-F]
      have V:∀(k:Nat) (w:World),(askRoom k).run P w = .ok () w:=by
       intro k w;unfold askRoom;split
       ·rfl
       ·rfl
      have R:((decide (cv<0)||decide ((by_:Int)*cv>2 ^ 48))||decide (lv<0)||decide (lv>cv))=false:=by
       simp only[Mk,decide_eq_false_iff_not];refine⟨⟨⟨by omega,?_⟩,by omega⟩,by omega⟩;have:((by_:Int)*cv)<=2 ^ 48:=Sx;omega
      simp only[Instr.makeSlice,run_bind,aW X,U,Q,asInt,asIntOf,run_pure,hi,Su,wl,wc];simp only[R,eP,cN,run_bind,V,dy hn];by_cases D:cv.toNat*n=0
      ·rw[af D]at C;simp only[af D,run_pure,<-C,newRow,newObj,run_bind,Sem.run,Fq]
      ·rw[ae D]at C;simp only[ae D,run_bind,G,run_pure,<-C,newRow,newObj,Sem.run,Fq]
     ·cases h
    ·cases h
   ·cases h
  ·cases h
 |convert s d x=>
  have I:=B x (by simp[Op.operands]);simp only[zk]at h;split at h
  ·rename_i e hs hd;split at h
   ·rename_i he;split at h
    ·rename_i l U;cases h;rw[U]at I;obtain⟨s',Y,rfl⟩:=I
     have S:(Go.convert s d (ρ x)).run P w=(Conv.stringToBytes e s').run P w:=by
      rw[Y];simp only[Go.convert,run_bind,aW hs,aW hd,aW he]
     obtain⟨cap,N,Sn⟩:=q7 (P:=P) e s' w;refine E _ rfl ⟨⟨w.heap.size,0,cap,0⟩,_,_,S.trans Sn,?_,λk => ?_⟩
     ·refine⟨rfl,rfl,rfl,by simp,?_,?_⟩
      ·intro k hk;simp only[];rw[F2,ae (by omega)]
      ·refine⟨_,e,_,oR w _,?_,?_,?_,?_⟩
       ·have hz:s'.data.size=s'.size:=rfl;simp only[Array.size_append,Array.size_map,Array.size_replicate,hz];omega
       ·simp only[iQ,oY,a7,<-size_data];exact N
       ·intro j y hy
        have hj:j<s'.data.toList.length:=by
         have:=(bq.1 hy).1
         simpa[iQ]using this
        rw[iQ,cL,aU hj]at hy;cases hy;refine⟨.int .u8 (s'.data.toList[j]).toNat,?_,rfl⟩;have Sm:j<s'.data.size:=by simpa using hj
        simp only[a7];rw[F0 (by simpa using Sm)];rw[Array.getElem?_map,F1 Sm];rfl
       ·intro j hj;simp only[];omega
     ·refine⟨_,cap,bX _ _ _,?_,?_,?_⟩
      ·rw[<-size_data]
      ·rw[<-size_data];exact N
      ·simp
    ·cases h
   ·cases h
  ·cases h
 |_=>simp[zk]at h
end
def tt:T := .c6 []
def aj(n:Nat)(a x:T)(σ:St):Option (T×St):=
 match a,x with
 | .v (.s (.ptr i o)),.v y=>match σ.get i with
   |some (.K true vs)=>if y.cells.length=n/\o+n<=vs.length then some (tt,σ.set i (.K true (aQ vs o y.cells)))else none
   |some (.mark vs)=>if y.cells.length=n/\o+n<=vs.length then some (tt,σ.set i (.K false (aQ vs o y.cells)))else none
   |_=>none
 |_,_=>none
def kG(m k x:T)(σ:St):Option (T×St):=
 match m,k,x with
 | .v (.s (.map i)),.v (.s k),.v y=>match σ.get i with
   |some (.map es)=>match ig k es 0 with
    |some (some (j,_))=>some (tt,σ.set i (.map (es.set j (k,y))))
    |some none=>some (tt,σ.set i (.map (es++[(k,y)])))
    |none=>none
   |_=>none
 |_,_,_=>none
def mj(m k:T)(σ:St):Option (T×St):=
 match m,k with
 | .v (.s .pb),.v (.s _)=>some (tt,σ)
 | .v (.s (.map i)),.v (.s k)=>match σ.get i with
   |some (.map es)=>match ig k es 0 with
    |some (some (j,_))=>some (tt,σ.set i (.map (es.eraseIdx j)))
    |some none=>some (tt,σ)
    |none=>none
   |_=>none
 |_,_=>none
def gZ(e:Nat)(x:T)(g:Mem):Option (Nat×List S):=
 match x with
 | .v (.s .av)=>some (0,[])
 | .v (.s (.emp _ _))=>some (0,[])
 | .v (.s (.sl i o n _))=>if n=0 then some (0,[])else match g i with
   |some (.K _ vs)=>if o+n*e<=vs.length then some (n,(vs.drop o).take (n*e))else none
   |some (.mark vs)=>if o+n*e<=vs.length then some (n,(vs.drop o).take (n*e))else none
   |_=>none
 | .v (.s (.str l))=>if e=1 then some (l.length,iQ l)else none
 |_=>none
def aF(e by_:Nat)(s x:T)(σ:St):Option (T×St):=
 match gZ e x σ.get with
 |none=>none
 |some (n,xs)=>if e=0 then none else match s with
  | .v (.s .av)=>if n=0 then some (Z .av,σ)else if n*by_<=140737488355328 then
   some (Z (.sl σ.size 0 n (.grown e)),σ.push (.K true xs))else none
  | .v (.s (.sl i o len (.known c)))=>if(len+n)*by_<=140737488355328 then match σ.get i with
   |some (.K own vs)=>
    if len+n<=c then(if own=true/\o+len*e+n*e<=vs.length then some (Z (.sl i o (len+n) (.known c)),σ.set i (.K true (aQ vs (o+len*e) xs)))else if n=0 then some (s,σ)else none)
    else if o+len*e<=vs.length then some (Z (.sl σ.size 0 (len+n) (.grown e)),σ.push (.K true ((vs.drop o).take (len*e)++xs)))else none
   |_=>none
   else none
  | .v (.s (.sl i o len (.grown q)))=>if q=e/\(len+n)*by_<=140737488355328 then
   if n=0 then some (s,σ)else match σ.get i with
   |some (.K true vs)=>
    if o+(len+n)*e<=vs.length then some (Z (.sl i o (len+n) (.grown e)),σ.set i (.K true (aQ vs (o+len*e) xs)))
    else if o+len*e<=vs.length then some (Z (.sl σ.size 0 (len+n) (.grown e)),(σ.set i .dead).push (.K true ((vs.drop o).take (len*e)++xs)))else none
   |_=>none
   else none
  | .v (.s (.emp i q))=>if q=e/\n*by_<=140737488355328 then
   if n=0 then some (s,σ)else match σ.get i with
   |some (.K true _)=>some (Z (.sl σ.size 0 n (.grown e)),(σ.set i .dead).push (.K true xs))
   |_=>none
   else none
  |_=>none
def nN(e by_:Nat)(z:List S)(s x:T)(σ:St):Option (T×St):=
 match s,x with
 | .v (.s .av),.v (.s (.int .i64 n))=>if 0<n/\n.toNat*by_<=140737488355328/\e≠0 then some (Z (.sl σ.size 0 n.toNat (.grown e)),σ.push (.K true (eD n.toNat z)))else none
 | .v (.s (.sl i o k (.known c))),.v (.s (.int .i64 n))=>match σ.get i with
   |some (.K true vs)=>if 0<n/\k<=c/\c<k+n.toNat/\(k+n.toNat)*by_<=140737488355328/\e≠0/\o+k*e<=vs.length then
    some (Z (.sl σ.size 0 (k+n.toNat) (.grown e)),σ.push (.K true ((vs.drop o).take (k*e)++eD n.toNat z)))else none
   |_=>none
 |_,_=>none
def uT(P:Program)(t:TypeId):Bool:=match P.underlying t with
 |some (.int _)=>true
 |_=>false
def jc(e:Nat)(d x:T)(σ:St):Option (T×St):=
 match gZ e x σ.get with
 |none=>none
 |some (n,xs)=>match d with
  | .v (.s .av)=>some (I .i64 0,σ)
  | .v (.s (.emp _ _))=>some (I .i64 0,σ)
  | .v (.s (.sl i o len _))=>match σ.get i with
    |some (.K true vs)=>if o+Nat.min n len*e<=vs.length then some (I .i64 (Nat.min n len),σ.set i (.K true (aQ vs o (xs.take (Nat.min n len*e)))))else none
    |_=>none
  |_=>none
def nM(e:Nat)(z:List S)(x:T)(σ:St):Option (T×St):=
 match x with
 | .v (.s .av)=>some (tt,σ)
 | .v (.s (.emp _ _))=>some (tt,σ)
 | .v (.s (.sl i o n _))=>if n=0 then some (tt,σ)else match σ.get i with
   |some (.K true vs)=>if o+n*e<=vs.length then some (tt,σ.set i (.K true (aQ vs o (eD n z))))else none
   |_=>none
 |_=>none
def yz(P:Program)(t:TypeId):Bool:=match P.underlying t with
 |some (.slice _)=>true
 |some .string=>true
 |_=>false
def Ax(x:T)(σ:St):Option (T×St):=
 match x with
 | .v (.s (.sl i _ _ _))=>match σ.get i with
   |some (.K true vs)=>some (x,σ.set i (.K false vs))
   |_=>none
 |_=>none
def Cy(P:Program)(op:Op)(ev:Operand->T)(σ:St):Option (T×St):=
 match op with
 | .store t a x=>match dH P t with
   |some n=>aj n (ev a) (ev x) σ
   |none=>none
 | .mapUpdate t m k x=>match P.underlying t with
   |some (.map g _)=>match y7 P g with
    |some c=>if isKey c (ev k)then kG (ev m) (ev k) (ev x) σ else none
    |none=>none
   |_=>none
 | .convert s d x=>match P.underlying s,P.underlying d with
   |some (.slice _),some (.slice e)=>match s == d,P.underlying e with
    |true,some (.int .u8)=>Ax (ev x) σ
    |_,_=>none
   |_,_=>none
 | .insert t m k x=>match P.underlying t with
   |some (.map g _)=>match y7 P g with
    |some c=>if isKey c (ev k)then kG (ev m) (ev k) (ev x) σ else none
    |none=>none
   |_=>none
 | .call { callee := .builtin .delete,args,argTypes }=>match args.toList,argTypes.toList with
   | [m,k],[t,_]=>match P.underlying t with
     |some (.map g _)=>match y7 P g with
      |some c=>if isKey c (ev k)then mj (ev m) (ev k) σ else none
      |none=>none
     |_=>none
   |_,_=>none
 | .call { callee := .builtin .append,args,argTypes }=>match args.toList,argTypes.toList with
   | [s,x],[t,u]=>match P.underlying t with
     |some (.slice e)=>match dH P e,yB P e,zeroOf P e with
      |some n,some b,some z=>if yz P u/\b≠0/\z.cells.length=n then aF n b (ev s) (ev x) σ else if uT P u/\b≠0/\z.cells.length=n then nN n b z.cells (ev s) (ev x) σ else none
      |_,_,_=>none
     |_=>none
   |_,_=>none
 | .call { callee := .builtin .copy,args,argTypes }=>match args.toList,argTypes.toList with
   | [d,x],[t,_]=>match P.underlying t with
     |some (.slice e)=>match dH P e with
      |some n=>jc n (ev d) (ev x) σ
      |none=>none
     |_=>none
   |_,_=>none
 | .call { callee := .builtin .clear,args,argTypes }=>match args.toList,argTypes.toList with
   | [x],[t]=>match P.underlying t with
     |some (.slice e)=>match dH P e,zeroOf P e with
      |some n,some z=>if z.cells.length=n then nM n z.cells (ev x) σ else none
      |_,_=>none
     |_=>none
   |_,_=>none
 |_=>none
def QA(P:Program)(ι:cV)(σ:St)(w:World)(ρ:Operand->Value)(o:Oper)(t:T)(a:St):Prop:=
 ∃κ u nx v,(execOp ρ o).run P w = .ok nx u/\(nx = .value v\/nx = .skip/\v=undef)/\Ext ι σ w κ a u/\Rel κ a.get u/\aT κ t v/\a.wf
section
variable {P:Program}{ι:cV}{w:World}{σ:St}
theorem jQ{κ:cV}:aT κ tt undef:=⟨[],rfl,.nil⟩
theorem CC{t:TypeId}{n:Nat}{a x:T}{u v:Value}{r:T}{j:St}(q:dH P t=some n)(p:Rel ι σ.get w)(f:σ.wf)(z:aT ι a u)(s:aT ι x v)(h:aj n a x σ=some (r,j)) :
 ∃w',(Instr.storeAt t u v).run P w = .ok () w'/\Ext ι σ w ι j w'/\Rel ι j.get w'/\r=tt/\j.wf:=by
 unfold aj at h;split at h
 ·rename_i i o y;obtain⟨L,m,rfl⟩:=z;split at h
  ·rename_i vs g;split at h
   ·rename_i A;cases h;have b:=cz.cells s;have c:=aP b;obtain⟨κ,w',a,d,k,l,rfl⟩:=fA (P:=P) p f m g (o:=o) (by omega) b;refine⟨w',?_,k,l,rfl,St.wf_set f (f.lt g) _⟩;simp only[Instr.storeAt,Instr.sureAddr,run_bind,run_pure,storeVar,dy q];have e:v.cells.size=n:=(by simp only[gf]at c;omega);rw[ae (by simp[e])];exact d
   ·cases h
  ·rename_i vs g;split at h
   ·rename_i A;cases h;have b:=cz.cells s;have c:=aP b;obtain⟨κ,w',a,d,k,l,rfl⟩:=va (P:=P) p f m g (o:=o) (by omega) b;refine⟨w',?_,k,l,rfl,St.wf_set f (f.lt g) _⟩;simp only[Instr.storeAt,Instr.sureAddr,run_bind,run_pure,storeVar,dy q];have e:v.cells.size=n:=(by simp only[gf]at c;omega);rw[ae (by simp[e])];exact d
   ·cases h
  ·cases h
 ·cases h
theorem pW{κ:cV}{i:Nat}{L:Loc}{es es':List (S×V)}{mes':Array MapEntry}{clk':Nat}(f:Rel ι σ.get w)(q:σ.wf)(d:ι i=some L)(g:σ.get i=some (.map es))
 (c:κ=ι) (k:bC (iC ι) es' mes'.toList) (l:mes'.toList.Pairwise λx y=>x.born<y.born) (m:∀e∈mes'.toList,e.born<clk') :
 ∃w',(setObj L.b (.map mes' clk')).run P w = .ok () w'/\Ext ι σ w κ (σ.set i (.map es')) w'/\Rel κ (σ.set i (.map es')).get w':=by
 subst c;obtain⟨p,j,h,_⟩:=f.blk i L _ d g;have a:=(iZ.1 h).1;obtain⟨n,o⟩:=uk f q d g trivial (.map mes' clk') (.map es') trivial ⟨mes',clk',by simp[a],k,l,m⟩;exact⟨_,by simp[setObj,Sem.run,h],n,o⟩
theorem PQ{a b:S}(h:lD a b=some true):a=b:=by
 cases a<;>cases b<;>simp only[lD]at h<;>first | (cases h;done) | skip
 ·simp at h;subst h;rfl
 ·rename_i k a k' b;by_cases e:k=k'
  ·subst e;simp at h;subst h;rfl
  ·rw[ae e]at h;cases h
 ·simp at h;subst h;rfl
theorem zy{a b:S}{u v:Value}(c:bG ι a u)(d:bG ι b v)(h:lD a b=some true)(n:Nat):Instr.sameBits n v u=true:=by
 have e:=PQ h;subst e;cases a<;>simp only[lD]at h<;>first | (cases h;done) | skip
 ·simp only[bG]at c d;subst c d;cases n<;>simp[Instr.sameBits]
 ·simp only[bG]at c d;subst c d;cases n<;>simp[Instr.sameBits]
 ·obtain⟨s,rfl,j⟩:=c;obtain⟨s',rfl,g⟩:=d
  have:s=s':=by
   cases s;cases s';simp only at j g
   congr
   apply Array.ext';rw[j,g]
  subst this;cases n<;>(simp only[Instr.sameBits];rw[beq_toListBytes];simp)
theorem qS{l:List MapEntry}{f:MapEntry->MapEntry}(k:∀e,(f e).born=e.born)(j:Nat)(h:l.Pairwise λx y=>x.born<y.born):(l.modify j f).Pairwise λx y=>x.born<y.born:=by
 induction l generalizing j with
 |nil=>simp
 |cons a l n=>
  rw[eT]at h;cases j with
  |zero=>
   rw[uD];rw[eT];exact⟨λb d=>by rw[k];exact h.1 b d,h.2⟩
  |succ j=>
   rw[uC];rw[eT];refine⟨λb d => ?_,n j h.2⟩
   have:∃c∈l,c.born=b.born:=by
    clear n h;induction l generalizing j with
    |nil=>simp at d
    |cons c l g=>
     cases j with
     |zero=>
      rw[uD]at d;cases d with
      |head=>exact⟨c,by simp,(k c).symm⟩
      |tail _ d=>exact⟨b,dC _ d,rfl⟩
     |succ j=>
      rw[uC]at d;cases d with
      |head=>exact⟨b,by simp,rfl⟩
      |tail _ d=>
       obtain⟨o,q,r⟩:=g j d;exact⟨o,by simp[q],r⟩
   obtain⟨c,t,e⟩:=this;rw[<-e];exact h.1 c t
theorem tO{l:List MapEntry}{f:MapEntry->MapEntry}(d:∀e,(f e).born=e.born){j RX:Nat}(h:∀e∈l,e.born<RX):∀e∈l.modify j f,e.born<RX:=by
 induction l generalizing j with
 |nil=>intro e c;simp at c
 |cons a l g=>
  intro e c;cases j with
  |zero=>
   rw[uD]at c;cases c with
   |head=>rw[d];exact h a (by simp)
   |tail _ c=>exact h e (dC _ c)
  |succ j=>
   rw[uC]at c;cases c with
   |head=>exact h a (by simp)
   |tail _ c=>exact g (λe c=>h e (by simp[c])) e c
theorem AG{es:List (S×V)}{c:List MapEntry}{f:MapEntry->MapEntry}{p:S×V}:∀{j:Nat},bC (iC ι) es c->(∀e,c[j]? = some e->iC ι p (f e)) →
 bC (iC ι) (es.set j p) (c.modify j f):=by
 intro j h;induction h generalizing j with
 |nil=>intro _;simpa using bC.nil
 | @cons a b l m k h n=>
   intro d;cases j with
   |zero=>rw[FH,uD];exact .cons (d b rfl) h
   |succ j=>rw[FG,uC];exact .cons k (n λe g=>d e (by simpa using g))
theorem CG{α β:Type}{R:α->β->Prop}{l:List α}{m:List β}(h:bC R l m):∀j,bC R (l.eraseIdx j) (m.eraseIdx j):=by
 induction h with
 |nil=>intro j;simpa using bC.nil
 |cons a h c=>intro j;cases j with
  |zero=>simpa using h
  |succ j=>simpa using bC.cons a (c j)
theorem sL{t kt et:TypeId}{kk:KK}{m k x:T}{um o I:Value}{r:T}{S:St}(hu:P.underlying t=some (.map kt et))(F:y7 P kt=some kk)(D:isKey kk k=true)(X:Rel ι σ.get w)(J:σ.wf)
 (Sk:aT ι m um) (E:aT ι k o) (hx:aT ι x I) (h:kG m k x σ=some (r,S)) :
 ∃w',(Instr.mapUpdate t um o I).run P w = .ok () w'/\Ext ι σ w ι S w'/\Rel ι S.get w'/\r=tt/\S.wf:=by
 unfold kG at h;split at h
 ·rename_i i kv y;obtain⟨L,V,rfl⟩:=Sk;split at h
  ·rename_i es z;obtain⟨n,u,hh,c,Q,G⟩:=X.blk i L _ V z;obtain⟨d,hd,_,N⟩:=oP (P:=P) (w:=w) F D E false 9999;have g:(Instr.checkKey false 10000 kt o).run P w = .ok () w:=N;have B:(getObj L.b).run P w = .ok (.map n u) w:=by simp[getObj,Sem.run,hh]
   split at h
   ·rename_i j v Y;cases h;obtain⟨v',R,h2,q,e,h3,h4,h5,h6⟩:=il (P:=P) (w:=w) F D E c Y
    have Z:iC ι (q,v) e:=by
     obtain⟨e',O,r⟩:=cr c j _ h3;rw[h4]at O;cases O;exact r
    have H:(Instr.keyThatStays (((n[j]?).map (·.key)).getD o) o).run P w = .ok o w:=by
     have e1:n[j]? = some e:=(by rw[<-na];exact h4);simp only[Instr.keyThatStays,e1,ni,nh];rw[zy E Z.1 h5];rfl
    have Sj:iC ι (kv,y) { e with key:=o,val:=I }:=⟨E,hx⟩
    obtain⟨w',hs,U,C⟩:=pW (P:=P) (κ:=ι) (es':=es.set j (kv,y)) (mes':=n.modify j λe=>{ e with key:=o,val:=I }) (clk':=u) X J V z rfl
     (by rw[D8];exact AG c (λe' _=>⟨E,hx⟩))
     (by rw[D8];exact qS (f:=λe=>{ e with key:=o,val:=I }) (λ_=>rfl) j Q)
     (by rw[D8];exact tO (f:=λe=>{ e with key:=o,val:=I }) (λ_=>rfl) G)
    refine⟨w',?_,U,C,rfl,St.wf_set J (J.lt z) _⟩;simp only[Instr.mapUpdate,run_bind,aW hu,B,g,R,H,hs]
   ·rename_i Y;cases h;have R:=il (P:=P) (w:=w) F D E c Y;simp only at R
    obtain⟨w',hs,U,C⟩:=pW (P:=P) (κ:=ι) (es':=es++[(kv,y)]) (mes':=n.push { key:=o,val:=I,born:=u }) (clk':=u+1) X J V z rfl
     (by rw[D9];exact cd c (.cons ⟨E,hx⟩ .nil))
     (by
      rw[D9,Fz];refine⟨Q,by simp,?_⟩;intro a ha b z;simp only[df]at z;subst z;exact G a ha)
     (by
      intro e he;rw[D9,dP]at he;rcases he with he | he
      ·have:=G e he;omega
      ·simp only[df]at he;subst he;simp)
    refine⟨w',?_,U,C,rfl,St.wf_set J (J.lt z) _⟩;simp only[Instr.mapUpdate,run_bind,aW hu,B,g,R,hs]
   ·cases h
  ·cases h
 ·cases h
theorem Aw{t C S t':TypeId}{ty:TypeId}{Q:KK}{m k:T}{R D:Value}{r:T}{E:St}(N:P.underlying t=some (.map C S))(p:y7 P C=some Q)(o:isKey Q k=true)(z:Rel ι σ.get w)(x:σ.wf)
 (J:aT ι m R) (B:aT ι k D) (h:mj m k σ=some (r,E)) :
 ∃w',(Builtin.delete_ #[t,t'] ty #[R,D]).run P w = .ok undef w'/\Ext ι σ w ι E w'/\Rel ι E.get w'/\r=tt/\E.wf:=by
 unfold mj at h;split at h
 ·rename_i Z;simp only[aT,cz,bG]at J;subst J;cases h;obtain⟨d,W,_,l⟩:=oP (P:=P) (w:=w) p o B true 9999;have a:(Instr.checkKey true 10000 C D).run P w = .ok () w:=l;refine⟨w,?_,Ext.refl _ _ _,z,rfl,x⟩;simp[Builtin.delete_,run_bind,aW N,a,run_pure,undef]
 ·rename_i i Z;obtain⟨L,O,rfl⟩:=J;split at h
  ·rename_i es G;obtain⟨f,n,A,g,K,I⟩:=z.blk i L _ O G;obtain⟨d,W,_,l⟩:=oP (P:=P) (w:=w) p o B f.isEmpty 9999;have a:(Instr.checkKey f.isEmpty 10000 C D).run P w = .ok () w:=l;have s:(getObj L.b).run P w = .ok (.map f n) w:=by simp[getObj,Sem.run,A]
   split at h
   ·rename_i j v H;cases h;obtain⟨v',y,h2,q,e,h3,U,h5,h6⟩:=il (P:=P) (w:=w) p o B g H
    have Y:j<f.size:=by
     have:=(bq.1 U).1
     simpa using this
    have c:(f.eraseIdxIfInBounds j).toList=f.toList.eraseIdx j:=by
     unfold Array.eraseIdxIfInBounds;rw[dif_pos Y];simp
    obtain⟨w',M,V,F⟩:=pW (P:=P) (κ:=ι) (es':=es.eraseIdx j) (mes':=f.eraseIdxIfInBounds j) (clk':=n) z x O G rfl
     (by rw[c];exact CG g j)
     (by rw[c];exact K.sublist (Mu ..))
     (by rw[c];intro e X;exact I e (zL X))
    refine⟨w',?_,V,F,rfl,St.wf_set x (x.lt G) _⟩;simp[Builtin.delete_,run_bind,aW N,s,a,y,M,run_pure,undef]
   ·rename_i H;cases h;have y:=il (P:=P) (w:=w) p o B g H;simp only at y;have u:=(iZ.1 A).1
    have heq:w.heap.setIfInBounds L.b (.map f n)=w.heap:=by
     apply wA;intro j;by_cases h:L.b=j
     ·subst h;rw[A,sE u]
     ·rw[mW h]
    have M:(setObj L.b (.map f n)).run P w = .ok () w:=by
     simp only[setObj,Sem.run,A,heq]
    refine⟨w,?_,Ext.refl _ _ _,z,rfl,x⟩;simp[Builtin.delete_,run_bind,aW N,s,a,y,M,run_pure,undef]
   ·cases h
  ·cases h
 ·cases h
end
section
variable {P:Program}{ι:cV}{w:World}{σ:St}
theorem run_askRoom(k:Nat)(w:World):(askRoom k).run P w = .ok () w:=by
 unfold askRoom;split
 ·rfl
 ·rfl
theorem uQ{e n:Nat}{x:T}{u:Value}{xs:List S}{g:Mem}(t:Rel ι g w)(f:aT ι x u)(h:gZ e x g=some (n,xs)) :
 xs.length=n*e/\(Builtin.lenOf u).run P w = .ok n w ∧
  ∀k,k<=n->∃cs:List Value,(Builtin.firstCells e k u).run P w = .ok cs.toArray w/\bC (bG ι) (xs.take (k*e)) cs:=by
 unfold gZ at h;split at h
 ·cases h;simp only[aT,cz,bG]at f;subst f;exact⟨by simp,rfl,λk a=>⟨[],by simp[Builtin.firstCells,run_pure],by simpa using bC.nil⟩⟩
 ·cases h;obtain⟨L,o,c,m,rfl,_⟩:=f;refine⟨by simp,rfl,λk a => ?_⟩;have:k=0:=by omega
  subst this;exact⟨[],by simp[Builtin.firstCells,loadCells,loadCellsFrom,run_pure],by simpa using bC.nil⟩
 ·rename_i i o len c;obtain⟨L,k,m,rfl,_⟩:=iP f;split at h
  ·rename_i y;subst y;cases h;refine⟨by simp,rfl,λk a => ?_⟩;have:k=0:=by omega
   subst this;exact⟨[],by simp[Builtin.firstCells,loadCells,loadCellsFrom,run_pure],by simpa using bC.nil⟩
  split at h
  ·rename_i own vs p;split at h
   ·rename_i r;cases h;refine⟨by simp;omega,rfl,λk a => ?_⟩;have d:k*e<=n*e:=dx e a;obtain⟨j,q,rd⟩:=run_loadCells (P:=P) t m p (o:=o) (n:=k*e) rfl (by simp;omega);refine⟨j,by simpa[Builtin.firstCells]using q,?_⟩;rw[gm,gp d];exact rd
   ·cases h
  ·rename_i vs p;split at h
   ·rename_i r;cases h;refine⟨by simp;omega,rfl,λk a => ?_⟩;have d:k*e<=n*e:=dx e a;obtain⟨j,q,rd⟩:=run_loadCells (P:=P) t.u7 m (own:=false) (vs:=vs) (by rw[p];rfl) (o:=o) (n:=k*e) rfl (by simp;omega);refine⟨j,by simpa[Builtin.firstCells]using q,?_⟩;rw[gm,gp d];exact rd
   ·cases h
  ·cases h
 ·rename_i l;split at h
  ·rename_i v;subst v;cases h;obtain⟨s,rfl,rfl⟩:=f;refine⟨by simp[iQ],?_,?_⟩
   ·rw[<-size_data];rfl
   ·intro k a;refine⟨(s.data.toList.take k).map λb => .int .u8 b.toNat,?_,?_⟩
    ·simp only[Builtin.firstCells,run_pure]
     congr 1
     rw[Ml];apply D7.1;simp[rz]
    ·rw[dZ,iQ,<-rz];exact l5 λb _=>rfl
  ·cases h
 ·cases h
theorem lX{c:Array Value}(h:∀v∈c.toList,dv v=true)(k:Nat):∀v∈(Builtin.zeroCells c k).toList,dv v=true:=by
 intro v e;unfold Builtin.zeroCells at e;rw[D6,Array.mem_map]at e;obtain⟨i,hi,rfl⟩:=e;rw[Array.mem_range]at hi
 have g:0<c.size:=by
  rcases zS c.size with h0 | h0
  ·rw[h0]at hi;omega
  ·exact h0
 have d:=di i g;rw[getElem!_pos c (i%c.size) d];exact h _ (D6.2 (Array.getElem_mem d))
theorem fX{t u ty e:TypeId}{n b g:Nat}(ht:P.underlying t=some (.slice e))(hn:dH P e=some n)(Y:yB P e=some b){z:V}(hz:zeroOf P e=some z)(S:yz P u=true)(J:b≠0)
 {a:Option Addr} {len cap:Nat} {x:Value} (r:(Builtin.lenOf x).run P w = .ok g w) {cs:List Value}
 (Z:len<=cap) (q:(len+g)*b<=140737488355328) :
 (len+g<=cap->(Builtin.firstCells n g x).run P w = .ok cs.toArray w->(Builtin.append_ #[t,u] ty #[.slice a len cap,x]).run P w =
  match (match a with | some a=>storeCells (a.add (len*n)) cs | none=>pure ()).run P w with
  | .ok () w' => .ok (.slice a (len+g) cap) w'
  | .halt h w' => .halt h w') ∧
 (cap<len+g->∀F:List Value,(Builtin.firstCells n g x).run P { w with drawn:=w.drawn+1 } = .ok cs.toArray { w with drawn:=w.drawn+1 } →
  (Builtin.firstCells n len (.slice a len cap)).run P { w with drawn:=w.drawn+1 } = .ok F.toArray { w with drawn:=w.drawn+1 }->∃(c:Nat) (o:Array Value),len+g<=c/\o.size=(c-(len+g))*z.cells.length/\(∀v∈o.toList,dv v=true) ∧
  (Builtin.append_ #[t,u] ty #[.slice a len cap,x]).run P w =
   .ok (.slice (some ⟨w.heap.size,0,none⟩) (len+g) c) { w with drawn:=w.drawn+1,heap:=w.heap.push (.cells ((F++cs).toArray++o) e (0,0)) }):=by
 obtain⟨i,hi,I⟩:=wj (P:=P) (w:=w) Y
 have B:∀w',(typeInfo e).run P w' = .ok i w':=by
  intro w';obtain⟨i',h1,_⟩:=wj (P:=P) (w:=w') Y
  have:P.info? e=some i:=by
   simp only[typeInfo,run_bind,program,Sem.run]at hi;cases hx:P.info? e with
   |none=>rw[hx]at hi;simp[stuck,Sem.run]at hi
   |some k=>rw[hx]at hi;simp only[run_pure]at hi;cases hi;rfl
  simp[typeInfo,run_bind,run_pure,program,Sem.run,this]
 have T:∃d,P.underlying u=some d/\∀k,d ≠ .int k:=by
  unfold yz at S;split at S
  ·rename_i E;exact⟨_,E,λk h=>by cases h⟩
  ·rename_i E;exact⟨_,E,λk h=>by cases h⟩
  ·cases S
 obtain⟨d,hd,O⟩:=T
 have G:(match d with | .int _=>true | _=>false)=false:=by
  cases d<;>first | rfl | (rename_i k;exact(O k rfl).elim)
 constructor
 ·intro R y
  simp only[Builtin.append_,run_bind,run_pure,aW ht,aW hd,dy hn,oX,lZ,p9,G,eP,cN,r,af R,
   Ef,bY,y]
  cases a with
  |none=>simp[run_pure]
  |some a=>
   simp only[run_bind];cases (storeCells (a.add (len*n)) cs).run P w with
   |halt h w'=>rfl
   |ok x w'=>rfl
 ·intro H F y hold;have Q:=growslice_fits (bytes:=b) H q;obtain⟨zv,X,j⟩:=iO (P:=P) (w:={ w with drawn:=w.drawn+1 }) (ι:=λ_=>none) hz;have U:=aP (cz.cells j)
  let c:=(len+g)+(w.tape w.drawn (.appendCap (len+g) cap e))%(2 ^ 63-(len+g))
  have N:(choose (.appendCap (len+g) cap e)).run P w = .ok c { w with drawn:=w.drawn+1 }:=by
   simp only[choose,Sem.run,Question.forced,eP,cN,Question.cut,c]
  refine⟨c,Builtin.zeroCells zv.cells (c-(len+g)),by simp only[c];omega,by simp[Builtin.zeroCells,U],lX (db (cz.cells j)) _,?_⟩;have C:¬(((len+g:Nat):Int)>IntKind.i64.max/\(False\/i.bytes=0)):=by rw[I];rintro⟨_,h | h⟩;exact h;exact J h
  have D:¬(Builtin.nextslicecap (len+g) cap*i.bytes>2 ^ 48):=by rw[I];omega
  simp only[Builtin.append_,run_bind,run_pure,aW ht,aW hd,dy hn,oX,lZ,p9,G,eP,cN,r,
   ae (Nat.not_le.2 H),Ef,bY,B]
  rw[ae C];simp only[run_bind,B];rw[ae D];simp only[run_bind,N,B,run_askRoom,hold,y,X,newRow,newObj,Sem.run,run_pure];simp
end
section
variable {P:Program}{ι:cV}{w:World}{σ:St}
theorem vc{i:Nat}{L:Loc}{vs:List S}(g:Rel ι σ.get w)(m:ι i=some L)(u:σ.get i=some (.K true vs)):Ext ι σ w ι (σ.set i .dead) w/\Rel ι (σ.set i .dead).get w:=by
 constructor
 ·refine⟨au _,λ_ _=>rfl,?_,?_,?_,λk M t r=>by simp at r;omega,rfl,rfl,au _,λ_ _ _=>rfl⟩
  ·intro k p a;by_cases e:k=i
   ·subst e;rw[St.get_set_same]at a;exact a.elim
   ·rwa [St.bO e]at a
  ·intro k p a;by_cases e:k=i
   ·subst e;rw[St.get_set_same]at a;exact a.elim
   ·rwa [St.bO e]at a
  ·intro k p q;by_cases e:k=i
   ·subst e;rw[m]at q;cases q
   ·exact St.bO e
 ·constructor
  ·intro k M b f c;by_cases e:k=i
   ·subst e;rw[St.get_set_same]at c;cases c;trivial
   ·rw[St.bO e]at c;exact g.blk k M b f c
  ·intro k j M N f s a d h;by_cases e:k=i
   ·subst e;rw[St.get_set_same]at a;exact a.elim
   ·rw[St.bO e]at a;by_cases l:j=i
    ·subst l;rw[St.get_set_same]at d;exact d.elim
    ·rw[St.bO l]at d;exact g.sep k j M N f s a d h
  ·intro k n vs o;by_cases e:k=i
   ·subst e;exact⟨L,m⟩
   ·rw[St.bO e]at o;exact g.eb k n vs o
theorem uu(a:σ.wf){i:Nat}(hi:i<σ.size):(σ.set i .dead).wf:=St.wf_set a hi _
theorem vU(B:Rel ι σ.get w)(Sl:σ.wf)(Sj:ι σ.size=none){i:Nat}{L M:Loc}{vs:List S}(z:ι i=some L)(C:σ.get i=some (.K true vs))(R:Obj)(U:M.b=L.b)(b:er)
 (V:fg ι M { w with heap:=w.heap.setIfInBounds L.b R } b) :
 Ext ι σ w (yj ι σ.size M) ((σ.set i .dead).push b) { w with heap:=w.heap.setIfInBounds L.b R } ∧
  Rel (yj ι σ.size M) ((σ.set i .dead).push b).get { w with heap:=w.heap.setIfInBounds L.b R }:=by
 have hi:=Sl.lt C;have t:=y9 M Sj;have hold:∀k,k≠L.b->(w.heap.setIfInBounds L.b R)[k]? = w.heap[k]? := λk D=>mW (λe=>D e.symm)
 have d:∀k,k≠σ.size->k≠i->((σ.set i .dead).push b).get k=σ.get k:=by
  intro k Z T;rw[St.j5 (by simpa using Z),St.bO T]
 have q:((σ.set i .dead).push b).get i=some .dead:=by
  rw[St.j5 (by simp;omega),St.get_set_same]
 have X:((σ.set i .dead).push b).get σ.size=some b:=by
  have:=St.bf (σ.set i .dead) b
  simpa using this
 constructor
 ·refine⟨by simp,?_,?_,?_,?_,?_,rfl,rfl,by simp,?_⟩
  ·intro k D;simp only[St.size_push,St.size_set]at D;exact gC _ _ (by omega)
  ·intro k D r;by_cases e:k=i
   ·subst e;rw[q]at r;exact r.elim
   ·rwa [d k (by omega) e]at r
  ·intro k D r;by_cases e:k=i
   ·subst e;rw[q]at r;exact r.elim
   ·rwa [d k (by omega) e]at r
  ·intro k D O;by_cases e:k=i
   ·subst e;rw[z]at O;cases O
   ·exact d k (by omega) e
  ·intro k N Z T h _;simp only[St.size_push,St.size_set]at T;have:k=σ.size:=by omega
   subst this;rw[bX]at h;cases h;exact .inr ⟨i,L,hi,z,U.symm,by rw[C];trivial⟩
  ·intro k D O;refine hold k λe => ?_
   exact O i L hi z (by rw[C];trivial) e.symm
 ·constructor
  ·intro k N c h y;by_cases e:k=σ.size
   ·subst e;rw[bX]at h;cases h;rw[X]at y;cases y;exact V.mono t
   ·rw[gC _ _ e]at h;by_cases u:k=i
    ·subst u;rw[q]at y;cases y;trivial
    ·rw[d k e u]at y;have Q:=B.blk k N c h y;cases c with
     |dead=>trivial
     |K own Sk=>exact(Q.mono t).congr (hold _ (bu (B.sep i k L N z h (by rw[C];trivial) (by rw[y];trivial) (bu u))))
     |map es=>exact(Q.mono t).congr (hold _ (bu (B.sep i k L N z h (by rw[C];trivial) (by rw[y];trivial) (bu u))))
     |eb g vs=>exact(Q.mono t).congr (hold _ (bu (B.sep i k L N z h (by rw[C];trivial) (by rw[y];trivial) (bu u))))
     |mark vs=>exact(Q.mono t).congr (hold _ (bu (B.sep i k L N z h (by rw[C];trivial) (by rw[y];trivial) (bu u))))
  ·intro k j N Y h o r F H;by_cases E:k=i
   ·subst E;rw[q]at r;exact r.elim
   ·by_cases I:j=i
    ·subst I;rw[q]at F;exact F.elim
    ·by_cases e:k=σ.size
     ·subst e;rw[bX]at h;cases h;have G:j≠σ.size:=λx=>H x.symm
      rw[gC _ _ G]at o;rw[d j G I]at F;rw[U];exact B.sep i j L Y z o (by rw[C];trivial) F (bu I)
     ·rw[gC _ _ e]at h;rw[d k e E]at r;by_cases u:j=σ.size
      ·subst u;rw[bX]at o;cases o;rw[U];exact B.sep k i N L h z r (by rw[C];trivial) E
      ·rw[gC _ _ u]at o;rw[d j u I]at F;exact B.sep k j N Y h o r F H
  ·intro k n vs J;by_cases e:k=σ.size
   ·subst e;exact⟨_,bX _ _ _⟩
   ·by_cases E:k=i
    ·subst E;rw[q]at J;cases J
    ·rw[d k e E]at J;obtain⟨N,h⟩:=B.eb k n vs J;exact⟨N,by rw[gC _ _ e];exact h⟩
theorem G2{i o m:Nat}{L:Loc}{vs xs:List S}{cs:List Value}(C:Rel ι σ.get w)(B:ι i=some L)(D:σ.get i=some (.K true vs))(J:o+m<=vs.length)
 (h:bC (bG ι) xs cs) (F:L.base+o+m+xs.length<=L.size) :
 ∃y,(storeCells ⟨L.b,L.base+o+m,none⟩ cs).run P w = .ok () { w with heap:=w.heap.setIfInBounds L.b y } ∧
  fg ι ⟨L.b,L.base+o,L.size,L.ty⟩ { w with heap:=w.heap.setIfInBounds L.b y } (.K true ((vs.drop o).take m++xs)):=by
 obtain⟨c,e,k,s,G,H,A,l⟩:=C.blk i L _ B D;have t:=aP h;obtain⟨g,f,M,a⟩:=iN P L.b e k cs (L.base+o+m) 0 w c s (by omega) (λj d I=>by have:=(l rfl).1;omega) (db h);have p:=(iZ.1 s).1;refine⟨.cells g e k,f,g,e,k,by simp[p],by show g.size=L.size;omega,?_,?_,λ_=>⟨by have:=(l rfl).1;omega,lf (l rfl).2 (db h) _ a⟩⟩
 ·show L.base+o+((vs.drop o).take m++xs).length<=L.size
  simp;omega
 ·intro j x d;have q:((vs.drop o).take m).length=m:=by simp;omega
  show ∃v,g[L.base+o+j]? = some v/\bG ι x v
  rw[a];by_cases n:j<m
  ·rw[kx (by omega),mX,af n,nu]at d;rw[ae (by omega)];have:=A (o+j) x d;rw[<-aH]at this;exact this
  ·rw[ky (by omega),q]at d;obtain⟨v,u,r⟩:=cr h _ _ d;have E:=(bq.1 u).1;rw[af (by omega)];have z:L.base+o+j-(L.base+o+m+0)=j-m:=by omega
   rw[z];exact⟨v,u,r⟩
theorem kR{e:TypeId}{xs:List S}{cs:List Value}(c:bC (bG ι) xs cs)(a:Array Value)(b:∀v∈a.toList,dv v=true) :
 lP ι w { w with drawn:=w.drawn+1,heap:=w.heap.push (.cells (cs.toArray++a) e (0,0)) } ⟨w.heap.size,0,cs.length+a.size,e⟩ (.K true xs):=by
 have h:=k4 (ι:=ι) (w:=w) (e:=e) c a b _ rfl;exact⟨h.Iz,h.os,h.output,h.size,h.keep,h.blk⟩
theorem wV(xs:List S)(n e:Nat)(h:xs.length=n*e):xs.take (n*e)=xs:=b8 (by omega)
theorem Cm{i o n c:Nat}{L:Loc}(a:ι i=some L)(h:n<=c):aT ι (Z (.sl i o n (.known c))) (.slice (some ⟨L.b,L.base+o,none⟩) n c):=⟨L,a,rfl,h⟩
theorem gO{i o n c e:Nat}{L:Loc}(a:ι i=some L)(h:n<=c)(d:L.base+o+c*e=L.size):aT ι (Z (.sl i o n (.grown e))) (.slice (some ⟨L.b,L.base+o,none⟩) n c):=⟨L,c,a,rfl,h,d⟩
theorem Ar{t u ty el:TypeId}{e b:Nat}{z:V}{s x:T}{us ux:Value}{r:T}{SI:St}(ht:P.underlying t=some (.slice el))(hn:dH P el=some e)(N:yB P el=some b)(hz:zeroOf P el=some z)
 (Sw:z.cells.length=e) (hu:yz P u=true) (J:b≠0) (I:Rel ι σ.get w) (D:σ.wf) (SJ:kE ι σ.size SI.size) (hs:aT ι s us) (hx:aT ι x ux) (h:aF e b s x σ=some (r,SI)) :
 ∃κ v w',(Builtin.append_ #[t,u] ty #[us,ux]).run P w = .ok v w'/\Ext ι σ w κ SI w'/\Rel κ SI.get w'/\aT κ r v/\SI.wf:=by
 unfold aF at h;split at h
 ·cases h
 rename_i n xs Sy;obtain⟨Sn,p,Su⟩:=uQ (P:=P) I hx Sy;have SB:Rel ι σ.get { w with drawn:=w.drawn+1 }:=I.heap rfl;obtain⟨_,_,Sk⟩:=uQ (P:=P) SB hx Sy;obtain⟨cs,hc,O⟩:=Su n (au _);obtain⟨ds,hd,U⟩:=Sk n (au _);rw[wV xs n e Sn]at O U;have SQ:=aP O;have Ss:=aP U;split at h
 ·cases h
 rename_i SN;split at h
 ·simp only[aT,cz,bG]at hs;subst hs;split at h
  ·rename_i h0;subst h0;cases h;obtain⟨E,_⟩:=fX (P:=P) (w:=w) (ty:=ty) ht hn N hz hu J (a:=none) (len:=0) (cap:=0) p (cs:=cs) (au _) (by omega);exact⟨ι,.slice none 0 0,w,E (au _) hc,Ext.refl _ _ _,I,rfl,D⟩
  ·rename_i h0;split at h
   ·rename_i F;cases h;obtain⟨_,S⟩:=fX (P:=P) (w:=w) (ty:=ty) ht hn N hz hu J (a:=none) (len:=0) (cap:=0) p (cs:=ds) (au _) (by simpa using F);obtain⟨c,k,l,g,C,d⟩:=S (by omega) [] hd (by simp[Builtin.firstCells,run_pure]);have f:ι σ.size=none:=SJ σ.size (au _) (by simp);have Y:=kR (ι:=ι) (w:=w) (e:=el) U k C;refine⟨_,_,_,d,mr Y,by rw[jo];exact lH I f Y,?_,St.bo D _⟩;simp only[a7]at l g ⊢;refine gO (bX _ _ _) l ?_;show 0+0+c*e=ds.length+k.size
    rw[g,Sw,<-Ss,Sn,<-bJ];simp only[a7]
    congr 1;omega
   ·cases h
 ·rename_i i o len c;split at h
  ·rename_i F;obtain⟨L,H,rfl,Sl⟩:=hs;split at h
   ·rename_i own vs G;split at h
    ·rename_i B;obtain⟨E,_⟩:=fX (P:=P) (w:=w) (ty:=ty) ht hn N hz hu J (a:=some ⟨L.b,L.base+o,none⟩) (len:=len) (cap:=c) p (cs:=cs) Sl F;have d:=E B hc;split at h
     ·rename_i y;obtain⟨rfl,Sv⟩:=y;cases h;obtain⟨κ,w',_,Q,X,R,rfl⟩:=fA (P:=P) I D H G (o:=o+len*e) (xs:=xs) (by omega) O;simp only[add_eq]at d;rw[aH,Q]at d;exact⟨_,_,w',d,X,R,Cm H B,St.wf_set D (D.lt G) _⟩
     ·split at h
      ·rename_i h0;subst h0;cases h;have Sj:cs=[]:=cJ (by omega);subst Sj;simp only[storeCells,run_pure]at d;exact⟨ι,_,w,d,Ext.refl _ _ _,I,Cm H (by omega),D⟩
      ·cases h
    ·rename_i SR;split at h
     ·rename_i Sv;cases h;obtain⟨_,S⟩:=fX (P:=P) (w:=w) (ty:=ty) ht hn N hz hu J (a:=some ⟨L.b,L.base+o,none⟩) (len:=len) (cap:=c) p (cs:=ds) Sl F;obtain⟨Sp,ho,Sm⟩:=run_loadCells (P:=P) SB H G (o:=o) (n:=len*e) rfl (by simp;omega);obtain⟨c',k,l,g,C,d⟩:=S (by omega) Sp hd (by simpa[Builtin.firstCells]using ho);have f:ι σ.size=none:=SJ σ.size (au _) (by simp);have Z:=cd Sm U;have SF:=aP Sm;have Y:=kR (ι:=ι) (w:=w) (e:=el) Z k C;refine⟨_,_,_,d,mr Y,by rw[jo];exact lH I f Y,?_,St.bo D _⟩;refine gO (bX _ _ _) l ?_;show 0+0+c'*e=(Sp++ds).length+k.size
      have SE:((vs.drop o).take (len*e)).length=len*e:=(by simp;omega);rw[g,Sw,aI,<-Ss,Sn,<-SF,SE,<-bJ,<-bJ];simp only[a7]
      congr 1;omega
     ·cases h
   ·cases h
  ·cases h
 ·rename_i i o len q;split at h
  ·rename_i y;obtain⟨hq,F⟩:=y;have SG:=hq.symm;subst SG;obtain⟨L,c,H,rfl,Sl,W⟩:=hs;obtain⟨E,_⟩:=fX (P:=P) (w:=w) (ty:=ty) ht hn N hz hu J (a:=some ⟨L.b,L.base+o,none⟩) (len:=len) (cap:=c) p (cs:=cs) Sl F;obtain⟨_,S⟩:=fX (P:=P) (w:=w) (ty:=ty) ht hn N hz hu J (a:=some ⟨L.b,L.base+o,none⟩) (len:=len) (cap:=c) p (cs:=ds) Sl F;split at h
   ·rename_i h0;subst h0;cases h;have Sj:cs=[]:=cJ (by omega);subst Sj;have d:=E (by omega) hc;simp only[storeCells,run_pure]at d;exact⟨ι,_,w,d,Ext.refl _ _ _,I,gO H (by omega) W,D⟩
   ·rename_i h0;split at h
    ·rename_i vs G;have SM:=I.blk i L _ H G;obtain⟨bc,be,Sr,Sz,SK,SL,_⟩:=SM;split at h
     ·rename_i Sv;cases h
      have B:len+n<=c:=by
       have h1:(len+n)*e<=c*e:=(by omega);exact Nat.le_of_mul_le_mul_right h1 (zV SN)
      have d:=E B hc;have e1:(len+n)*e=len*e+n*e:=bJ ..;obtain⟨κ,w',_,Q,X,R,rfl⟩:=fA (P:=P) I D H G (o:=o+len*e) (xs:=xs) (by omega) O;simp only[add_eq]at d;rw[aH,Q]at d;exact⟨_,_,w',d,X,R,gO H B W,St.wf_set D (D.lt G) _⟩
     ·split at h
      ·rename_i Sv;cases h;have f:ι σ.size=none:=SJ σ.size (au _) (by simp);by_cases B:len+n<=c
       ·have d:=E B hc;have e1:(len+n)*e=len*e+n*e:=bJ ..;have e2:(len+n)*e<=c*e:=dx e B;obtain⟨ob,Q,SD⟩:=G2 (P:=P) I H G (o:=o) (m:=len*e) Sv O (by omega);simp only[add_eq]at d;rw[Q]at d;obtain⟨X,R⟩:=vU I D f H G ob (M:=⟨L.b,L.base+o,L.size,L.ty⟩) rfl _ SD;refine⟨_,_,_,d,X,R,?_,St.bo (uu D (D.lt G)) _⟩;exact gO (L:=⟨L.b,L.base+o,L.size,L.ty⟩) (bX _ _ _) B (by simpa using W)
       ·obtain⟨Sp,ho,Sm⟩:=run_loadCells (P:=P) SB H G (o:=o) (n:=len*e) rfl (by simp;omega);obtain⟨c',k,l,g,C,d⟩:=S (by omega) Sp hd (by simpa[Builtin.firstCells]using ho);have Z:=cd Sm U;have SF:=aP Sm;have Y:=kR (ι:=ι) (w:=w) (e:=el) Z k C;obtain⟨X,SC⟩:=vc I H G;refine⟨_,_,_,d,X.trans (mr Y),by rw[jo];exact lH SC f Y,?_,St.bo (uu D (D.lt G)) _⟩;refine gO (bX _ _ _) l ?_;show 0+0+c'*e=(Sp++ds).length+k.size
        have SE:((vs.drop o).take (len*e)).length=len*e:=(by simp;omega);rw[g,Sw,aI,<-Ss,Sn,<-SF,SE,<-bJ,<-bJ];simp only[a7]
        congr 1;omega
      ·cases h
    ·cases h
  ·cases h
 ·rename_i i q;split at h
  ·rename_i y;obtain⟨hq,F⟩:=y;have SG:=hq.symm;subst SG;obtain⟨L,A,c,H,rfl,W⟩:=hs;obtain⟨E,_⟩:=fX (P:=P) (w:=w) (ty:=ty) ht hn N hz hu J (a:=some A) (len:=0) (cap:=c) p (cs:=cs) (cc _) (by simpa using F);obtain⟨_,S⟩:=fX (P:=P) (w:=w) (ty:=ty) ht hn N hz hu J (a:=some A) (len:=0) (cap:=c) p (cs:=ds) (cc _) (by simpa using F);split at h
   ·rename_i h0;subst h0;cases h;have Sj:cs=[]:=cJ (by omega);subst Sj;have d:=E (by omega) hc;simp only[storeCells,run_pure]at d;exact⟨ι,_,w,d,Ext.refl _ _ _,I,⟨L,A,c,H,rfl,W⟩,D⟩
   ·rename_i h0;split at h
    ·rename_i vs G;cases h;have f:ι σ.size=none:=SJ σ.size (au _) (by simp);by_cases B:0+n<=c
     ·have d:=E B hc;obtain⟨o,rfl,SH⟩:=W.resolve_left (by omega);have e2:n*e<=c*e:=dx e (by omega);obtain⟨bc,be,Sr,Sz,SK,SL,SP,SA⟩:=I.blk i L _ H G;obtain⟨c',Q,SU,Sx⟩:=iN P L.b be Sr cs (L.base+o) 0 w bc Sz (by omega) (λj hj hh=>by have:=(SA rfl).1;omega) (db O);have SO:=(iZ.1 Sz).1
      have SD:fg ι ⟨L.b,L.base+o,L.size,L.ty⟩ { w with heap:=w.heap.setIfInBounds L.b (.cells c' be Sr) } (.K true xs):=by
       refine⟨c',be,Sr,by simp[SO],by show c'.size=L.size;omega,by show L.base+o+xs.length<=L.size;omega,?_,λ_=>⟨by have:=(SA rfl).1;omega,lf (SA rfl).2 (db O) _ Sx⟩⟩;intro j x hj;show ∃v,c'[L.base+o+j]? = some v/\bG ι x v
       obtain⟨v,hv,r⟩:=cr O _ _ hj;have SS:=(bq.1 hv).1;rw[Sx,af (by omega)];have e1:L.base+o+j-(L.base+o+0)=j:=(by omega);rw[e1];exact⟨v,hv,r⟩
      simp only[o4,add_eq,iX,a7]at d Q;rw[Q]at d;obtain⟨X,R⟩:=vU I D f H G _ (M:=⟨L.b,L.base+o,L.size,L.ty⟩) rfl _ SD;refine⟨_,_,_,d,X,R,?_,St.bo (uu D (D.lt G)) _⟩;exact gO (L:=⟨L.b,L.base+o,L.size,L.ty⟩) (bX _ _ _) (by omega) (by simpa using SH)
     ·obtain⟨c',k,l,g,C,d⟩:=S (by omega) [] hd (by simp[Builtin.firstCells,loadCells,loadCellsFrom,run_pure]);have Y:=kR (ι:=ι) (w:=w) (e:=el) U k C;obtain⟨X,SC⟩:=vc I H G;refine⟨_,_,_,d,X.trans (mr Y),by rw[jo];exact lH SC f Y,?_,St.bo (uu D (D.lt G)) _⟩;simp only[a7]at l g ⊢;refine gO (bX _ _ _) l ?_;show 0+0+c'*e=ds.length+k.size
      rw[g,Sw,<-Ss,Sn,<-bJ];simp only[a7]
      congr 1;omega
    ·cases h
  ·cases h
 ·cases h
end
section
variable {P:Program}{ι:cV}{w:World}{σ:St}
theorem F5{t u ty el:TypeId}{e:Nat}{d x:T}{E F:Value}{r:T}{q:St}(B:P.underlying t=some (.slice el))(z:dH P el=some e)
 (m:Rel ι σ.get w) (l:σ.wf) (p:aT ι d E) (J:aT ι x F) (h:jc e d x σ=some (r,q)) :
 ∃v w',(Builtin.copy_ #[t,u] ty #[E,F]).run P w = .ok v w'/\Ext ι σ w ι q w'/\Rel ι q.get w'/\aT ι r v/\q.wf:=by
 unfold jc at h;split at h
 ·cases h
 rename_i n xs j;obtain⟨K,b,a⟩:=uQ (P:=P) m J j;split at h
 ·simp only[aT,cz,bG]at p;subst p;cases h;obtain⟨cs,g,f⟩:=a 0 (cc _);refine⟨.int .i64 0,w,?_,Ext.refl _ _ _,m,rfl,l⟩;simp[Builtin.copy_,run_bind,aW B,b,dy z,g,run_pure,goInt]
 ·obtain⟨L,o,c,C,rfl,_⟩:=p;cases h;obtain⟨cs,g,f⟩:=a 0 (cc _);have y:cs=[]:=cJ (by have:=aP f;simp at this;omega);subst y;refine⟨.int .i64 0,w,?_,Ext.refl _ _ _,m,rfl,l⟩;simp[Builtin.copy_,run_bind,aW B,b,dy z,g,run_pure,goInt,storeCells]
 ·rename_i i o len c;obtain⟨L,k,C,rfl,_⟩:=iP p;split at h
  ·rename_i vs D;split at h
   ·rename_i H;cases h;obtain⟨cs,g,f⟩:=a (Nat.min n len) (FU ..);have hmul:Nat.min n len*e<=n*e:=dx e (FU ..);have I:(xs.take (Nat.min n len*e)).length=Nat.min n len*e:=(by simp;omega);obtain⟨κ,w',_,A,G,s,rfl⟩:=fA (P:=P) m l C D (o:=o) (by omega) f;refine⟨.int .i64 (Nat.min n len),w',?_,G,s,rfl,St.wf_set l (l.lt D) _⟩;simp only[Builtin.copy_,run_bind,aW B,b,dy z,g,run_pure,goInt,oX,lZ,p9,A]
   ·cases h
  ·cases h
 ·cases h
theorem CA{t ty el:TypeId}{e:Nat}{z:V}{x:T}{D:Value}{r:T}{l:St}(g:P.underlying t=some (.slice el))(K:dH P el=some e)(I:zeroOf P el=some z)(a:z.cells.length=e)
 (f:Rel ι σ.get w) (b:σ.wf) (j:aT ι x D) (h:nM e z.cells x σ=some (r,l)) :
 ∃w',(Builtin.clear_ #[t] ty #[D]).run P w = .ok undef w'/\Ext ι σ w ι l w'/\Rel ι l.get w'/\r=tt/\l.wf:=by
 unfold nM at h;split at h
 ·simp only[aT,cz,bG]at j;subst j;cases h;exact⟨w,by simp[Builtin.clear_,run_bind,aW g,run_pure,undef],Ext.refl _ _ _,f,rfl,b⟩
 ·obtain⟨L,o,c,A,rfl,_⟩:=j;cases h;exact⟨w,by simp[Builtin.clear_,run_bind,aW g,run_pure,undef],Ext.refl _ _ _,f,rfl,b⟩
 ·rename_i i o len c;obtain⟨L,k,A,rfl,_⟩:=iP j;split at h
  ·rename_i y;cases h;subst y;exact⟨w,by simp[Builtin.clear_,run_bind,aW g,run_pure,undef],Ext.refl _ _ _,f,rfl,b⟩
  ·rename_i y;split at h
   ·rename_i vs B;split at h
    ·rename_i p;cases h;obtain⟨v,H,J⟩:=iO (P:=P) (w:=w) (ι:=ι) I;have C:=cz.cells J;obtain⟨ds,G,rd⟩:=mg C len e a;have u:(eD len z.cells).length=len*e:=(by simp[eD,a]);obtain⟨κ,w',_,q,F,n,rfl⟩:=fA (P:=P) f b A B (o:=o) (xs:=eD len z.cells) (by rw[u];exact p) rd;refine⟨w',?_,F,n,rfl,St.wf_set b (b.lt B) _⟩;have d:=aP C
     have s:(Builtin.zeroCells v.cells len).toList=ds:=by
      unfold Builtin.zeroCells;have E:len*v.cells.size=len*e:=(by rw[show v.cells.size=e by rw[<-a,d];simp]);rw[E,<-iW (xs:=v.cells),G]
     obtain⟨m,rfl⟩:∃m,len=m+1:=⟨len-1,by omega⟩;simp[Builtin.clear_,run_bind,aW g,run_pure,undef,H,s,q,Result.andThen]
    ·cases h
   ·cases h
 ·cases h
theorem F8{x:T}{t:Value}{r:T}{p:St}(y:Rel ι σ.get w)(u:σ.wf)(B:aT ι x t)(h:Ax x σ=some (r,p)) :
 ∃a n c w',t = .slice (some a) n c/\(markStringish a).run P w = .ok () w'/\Ext ι σ w ι p w'/\Rel ι p.get w'/\aT ι r t/\p.wf:=by
 unfold Ax at h;split at h
 ·rename_i i o len cap;split at h
  ·rename_i vs q;cases h;obtain⟨L,k,v,rfl,_⟩:=iP B;obtain⟨c,e,d,m,C,D,E,G⟩:=y.blk i L _ v q;have j:=(iZ.1 m).1;have H:=(iZ.1 m).2
   have l:(markStringish ⟨L.b,L.base+o,none⟩).run P w = .ok () (w.freeze ⟨L.b,c.size,none⟩ 1):=by
    unfold markStringish;rw[run_bind]
    have F:w.shape? L.b=some (e,c.size):=by
     unfold World.shape?;rw[m]
    have:(shape L.b).run P w = .ok (some (e,c.size)) w:=by
     rw[<-F];rfl
    simp only[this];rfl
   have f:w.freeze ⟨L.b,c.size,none⟩ 1={ w with heap:=w.heap.setIfInBounds L.b (.cells c e (if d.1 == d.2 then(c.size,c.size+1)else(min d.1 c.size,max d.2 (c.size+1)))) }:=by
    unfold World.freeze;rw[ae (by omega)]
    congr 1
    apply wA;intro k;rw[Mt,Array.getElem?_setIfInBounds];by_cases s:L.b=k
    ·subst s;rw[af rfl,af rfl,af j,m];rfl
    ·rw[ae s,ae s]
   generalize(if d.1 == d.2 then(c.size,c.size+1)else(min d.1 c.size,max d.2 (c.size+1)))=g at f;obtain⟨z,A⟩:=uk y u v q trivial (.cells c e g) (.K false vs) trivial ⟨c,e,g,by simp[j],C,D,E,λh=>by cases h⟩;rw[<-f]at z A;exact⟨_,_,_,_,rfl,l,z,A,B,St.wf_set u (u.lt q) _⟩
  ·cases h
 ·cases h
theorem yn{z:List S}{e:Nat}(d:z.length=e)(m:Nat):(eD m z).length=m*e:=by
 induction m with
 |zero=>simp[eD]
 |succ k c=>simp only[eD,uE,p8,aI]at c ⊢;rw[c,d,bJ];omega
theorem Da{t u ty el:TypeId}{e b:Nat}{z:V}{i o k c m:Nat}{us:Value}{vs:List S}(ht:P.underlying t=some (.slice el))(hn:dH P el=some e)(D:yB P el=some b)(q:zeroOf P el=some z)
 (r:z.cells.length=e) (hu:uT P u=true) (Y:b≠0) (hR:Rel ι σ.get w) (SC:σ.wf) (Sx:kE ι σ.size (σ.size+1)) (hs:aT ι (Z (.sl i o k (.known c))) us) (Sv:σ.get i=some (.K true vs))
 (h0:0<m) (hc:c<k+m) (Ss:(k+m)*b<=140737488355328) (Sw:e≠0) (SB:o+k*e<=vs.length) :
 ∃κ v w',(Builtin.append_ #[t,u] ty #[us,.int .i64 (m:Int)]).run P w = .ok v w'/\Ext ι σ w κ (σ.push (.K true ((vs.drop o).take (k*e)++eD m z.cells))) w' ∧
  Rel κ (σ.push (.K true ((vs.drop o).take (k*e)++eD m z.cells))).get w'/\aT κ (Z (.sl σ.size 0 (k+m) (.grown e))) v:=by
 obtain⟨L,hL,rfl,Sy⟩:=hs;have X:Rel ι σ.get w.drew:=hR.heap rfl;obtain⟨x,ho,Q⟩:=run_loadCells (P:=P) X hL Sv (o:=o) (n:=k*e) rfl (by simp;omega)
 obtain⟨inf,C,hi,j,h,N,y⟩:∃inf C,P.info? el=some inf/\inf.zero=some C/\cz ι z C/\inf.size=e/\inf.bytes=b:=by
  unfold zeroOf at q;unfold dH at hn;unfold yB at D;cases hi:P.info? el with
  |none=>rw[hi]at q;cases q
  |some inf=>
   rw[hi]at q hn D;simp only[o5]at q;cases j:inf.zero with
   |none=>rw[j]at q;cases q
   |some v=>
    rw[j]at q;exact⟨inf,v,rfl,j,qd q,by simpa using hn,by simpa using D⟩
 obtain⟨kn,Sl⟩:∃kn,P.underlying u=some (.int kn):=by
  unfold uT at hu;split at hu
  ·rename_i k' Su;exact⟨k',Su⟩
  ·cases hu
 have Sz:(k+m)<=(k+m)*b:=FP _ (zV Y);have SA:m*b<=(k+m)*b:=dx _ (by omega);have J:=growslice_fits (bytes:=b) hc Ss;have g:=Lib.run_append_grow_zeros (P:=P) w t u ty el inf C .i64 kn ht Sl hi j (some ⟨L.b,L.base+o,none⟩) k c x (by rw[N];simpa[Builtin.firstCells]using ho) m h0 (by omega) hc (by omega) (by rw[y];omega) (by rw[y];exact J);have R:=cz.cells h;have B:=aP R;obtain⟨T,Sj,H⟩:=mg (cs:=C.cells.toList) (by simpa using R) m e r
 have Sk:Builtin.zeroCells C.cells m=T.toArray:=by
  unfold Builtin.zeroCells;rw[<-Sj];have:C.cells.size=e:=by rw[<-r,B,gf]
  rw[this,iW]
 obtain⟨G,hG⟩:=aZ (grownCap w (k+m) c el);have U:k+m<=G:=by rw[hG];exact grownCap_ge w _ _ _
 rw[<-hG,Sk]at g
 obtain⟨d,Sn,Sp,O⟩:∃d:Array Value,d=Builtin.zeroCells C.cells (G-(k+m))/\d.size=(G-(k+m))*z.cells.length/\∀v∈d.toList,dv v=true:=
  ⟨_,rfl,by simp[Builtin.zeroCells,B],lX (db (cz.cells h)) _⟩
 rw[<-Sn]at g;have E:ι σ.size=none:=Sx σ.size (au _) (by omega);have F:=cd Q H;have hN:=kR (ι:=ι) (w:=w) (e:=el) F d O;have ea:x.toArray++T.toArray=(x++T).toArray:=by simp
 rw[ea]at g;refine⟨_,_,_,g,mr hN,by rw[jo];exact lH hR E hN,?_⟩;refine gO (bX _ _ _) U ?_;show 0+0+G*e=(x++T).length+d.size
 have Sr:=aP Q;have I:=aP H;rw[yn r m]at I;have Sm:((vs.drop o).take (k*e)).length=k*e:=by simp;omega
 rw[Sp,r,aI,<-Sr,Sm,<-I,<-bJ,<-bJ];simp only[a7]
 congr 1;omega
theorem F7{t u ty el:TypeId}{e b:Nat}{z:V}{s x:T}{us ux:Value}{r:T}{Sj:St}(ht:P.underlying t=some (.slice el))(hn:dH P el=some e)(B:yB P el=some b)(hz:zeroOf P el=some z)
 (j:z.cells.length=e) (hu:uT P u=true) (O:b≠0) (hR:Rel ι σ.get w) (SC:σ.wf) (SD:kE ι σ.size Sj.size) (hs:aT ι s us) (N:aT ι x ux) (h:nN e b z.cells s x σ=some (r,Sj)) :
 ∃κ v w',(Builtin.append_ #[t,u] ty #[us,ux]).run P w = .ok v w'/\Ext ι σ w κ Sj w'/\Rel κ Sj.get w'/\aT κ r v/\Sj.wf:=by
 unfold nN at h;split at h
 ·rename_i n;split at h
  ·rename_i Q;obtain⟨SI,g,C⟩:=Q;cases h;simp only[aT,cz,bG]at hs N;subst hs N;obtain⟨i,hi,S⟩:=wj (P:=P) (w:=w) B
   have F:∀w',(typeInfo el).run P w' = .ok i w':=by
    intro w';obtain⟨i',h1,_⟩:=wj (P:=P) (w:=w') B
    have:P.info? el=some i:=by
     simp only[typeInfo,run_bind,program,Sem.run]at hi;cases N:P.info? el with
     |none=>rw[N]at hi;simp[stuck,Sem.run]at hi
     |some k=>rw[N]at hi;simp only[run_pure]at hi;cases hi;rfl
    simp[typeInfo,run_bind,run_pure,program,Sem.run,this]
   have Sy:∃k,P.underlying u=some (.int k):=by
    unfold uT at hu;split at hu
    ·rename_i k Sx;exact⟨k,Sx⟩
    ·cases hu
   obtain⟨k,hd⟩:=Sy;obtain⟨m,Su⟩:∃m:Nat,n=m:=⟨n.toNat,by omega⟩;subst Su;rw[iY]at g ⊢;have SH:0<m:=by omega
   have SE:m<=140737488355328:=bl (FP m (zV O)) g
   have hw:IntKind.i64.wrap (m:Int)=(m:Int):=by
    unfold IntKind.wrap;simp[IntKind.signed,IntKind.bits];omega
   have E:=growslice_fits (bytes:=b) (show 0<0+m by omega) (by simpa using g);rw[a7]at E;have SB:∀w',∃zv,(zeroValue el).run P w' = .ok zv w'/\cz ι z zv:=λw'=>iO (P:=P) (w:=w') (ι:=ι) hz
   obtain⟨zv,SA,q⟩:=SB { w with drawn:=w.drawn+1 };have Z:=cz.cells q;have y:=aP Z;obtain⟨ds,Sm,R⟩:=mg (cs:=zv.cells.toList) (by simpa using Z) m e j
   have Sp:Builtin.zeroCells zv.cells m=ds.toArray:=by
    unfold Builtin.zeroCells;rw[<-Sm];have:zv.cells.size=e:=(by rw[<-j,y,gf]);rw[this,iW]
   let c:=m+(w.tape w.drawn (.appendCap m 0 el))%(2 ^ 63-m)
   have Sk:(choose (.appendCap m 0 el)).run P w = .ok c { w with drawn:=w.drawn+1 }:=by
    simp only[choose,Sem.run,Question.forced,eP,cN,Question.cut,c]
   have G:∃d:Array Value,d=Builtin.zeroCells zv.cells (c-m)/\d.size=(c-m)*z.cells.length/\∀v∈d.toList,dv v=true:=⟨_,rfl,by simp[Builtin.zeroCells,y],lX (db (cz.cells q)) _⟩;obtain⟨d,Sv,Sw,X⟩:=G;have Sl:m<=c:=by simp only[c];omega
   have H:¬((m:Int)*i.bytes>2 ^ 48):=by
    have:(m:Int)*(i.bytes:Int)=((m*b:Nat):Int):=(by rw[S];push_cast;rfl);rw[this];omega
   have I:¬(((0+m:Nat):Int)>IntKind.i64.max):=by
    show ¬(((0+m:Nat):Int)>9223372036854775807)
    omega
   have J:¬(Builtin.nextslicecap m 0*i.bytes>2 ^ 48):=by rw[S];omega
   have SJ:=hn;have U:¬(m*e=0):=Nat.mul_ne_zero (by omega) C
   have Y:(Builtin.append_ #[t,u] ty #[.slice none 0 0,.int .i64 m]).run P w =
    .ok (.slice (some ⟨w.heap.size,0,none⟩) m c) { w with drawn:=w.drawn+1,heap:=w.heap.push (.cells (ds.toArray++d) el (0,0)) }:=by
    have Sr:¬((m:Int)<0):=(by omega);have Ss:¬(0+m<=0):=(by omega);simp only[Builtin.append_,run_bind,run_pure,aW ht,aW hd,dy hn,oX,lZ,p9,bY,asInt,asIntOf,hw,ae Sr,F,ae H,iY,ae Ss];rw[ae (by rintro⟨h',_⟩;exact I h')];simp only[run_bind,F,a7];rw[ae J];simp only[run_bind,run_pure,Sk,F,run_askRoom,Builtin.firstCells,p7,eP,cN,ae U,SA,Sp,newRow,newObj,Sem.run,<-Sv];simp
   have D:ι σ.size=none:=SD σ.size (au _) (by simp);have hN:=kR (ι:=ι) (w:=w) (e:=el) R d X;refine⟨_,_,_,Y,mr hN,by rw[jo];exact lH hR D hN,?_,St.bo SC _⟩;refine gO (bX _ _ _) Sl ?_;show 0+0+c*e=ds.length+d.size
   have Sn:=aP R;rw[Sw,j,<-Sn]
   have:(eD m z.cells).length=m*e:=by
    have:∀k,(eD k z.cells).length=k*e:=by
     intro k;induction k with
     |zero=>simp[eD]
     |succ k ih=>simp only[eD,uE,p8,aI]at ih ⊢;rw[ih,j,bJ];omega
    exact this m
   rw[this,<-bJ];simp only[a7]
   congr 1
   omega
  ·cases h
 ·rename_i i o k c n;split at h
  ·rename_i vs SF;split at h
   ·rename_i Q;obtain⟨h0,SG,Q,g,C,Sz⟩:=Q;cases h;simp only[aT,cz,bG]at N;subst N;obtain⟨m,Su⟩:∃m:Nat,n=m:=⟨n.toNat,by omega⟩;subst Su;rw[iY]at*;obtain⟨κ,v,w',h1,h2,h3,h4⟩:=Da (P:=P) (ty:=ty) ht hn B hz j hu O hR SC (by simpa using SD) hs SF (by omega) Q g C Sz;exact⟨κ,v,w',h1,h2,h3,h4,St.bo SC _⟩
   ·cases h
  ·cases h
 ·cases h
theorem OA{o:Oper}{ev:Operand->T}{ρ:Operand->Value}{t:T}{τ:St}(J:Rel ι σ.get w)(O:σ.wf)(Sm:kE ι σ.size τ.size)(g:∀x∈o.op.operands,aT ι (ev x) (ρ x))(h:Cy P o.op ev σ=some (t,τ)) :
 QA P ι σ w ρ o t τ:=by
 obtain⟨dst,op,ty,pos,after,guard⟩:=o;simp only at g h
 have two:∀{α:Type} {l:Array α} {x y:α},l.toList=[x,y]->l = #[x,y]:=by
  intro α l x y e;rw[<-iW (xs:=l),e]
 have one:∀{α:Type} {l:Array α} {x:α},l.toList=[x]->l = #[x]:=by
  intro α l x e;rw[<-iW (xs:=l),e]
 cases op with
 |store Sk a x=>
  simp only[Cy]at h;split at h
  ·rename_i n Q;obtain⟨w',j,q,B,rfl,C⟩:=CC (P:=P) (t:=Sk) Q J O (g a (by simp[Op.operands])) (g x (by simp[Op.operands])) h;exact⟨ι,w',.skip,undef,by simp only[execOp,run_bind,j,run_pure],.inr ⟨rfl,rfl⟩,q,B,jQ,C⟩
  ·cases h
 |convert s d x=>
  simp only[Cy]at h;split at h
  ·rename_i e' e hs hd;split at h
   ·rename_i Y he;obtain⟨a,n,c,w',Z,j,q,B,S,C⟩:=F8 (P:=P) J O (g x (by simp[Op.operands])) h;refine⟨ι,w',.value (ρ x),ρ x,?_,.inl rfl,q,B,S,C⟩;simp only[execOp,run_bind,Go.convert,aW hs,aW hd,Z,Y,aW he,j,run_pure]
   ·cases h
  ·cases h
 |mapUpdate tm m k x=>
  simp only[Cy]at h;split at h
  ·rename_i kt I F;split at h
   ·rename_i kk H;split at h
    ·rename_i G;obtain⟨w',j,q,B,rfl,C⟩:=sL (P:=P) F H G J O (g m (by simp[Op.operands])) (g k (by simp[Op.operands])) (g x (by simp[Op.operands])) h;exact⟨ι,w',.skip,undef,by simp only[execOp,run_bind,j,run_pure],.inr ⟨rfl,rfl⟩,q,B,jQ,C⟩
    ·cases h
   ·cases h
  ·cases h
 |insert tm m k x=>
  simp only[Cy]at h;split at h
  ·rename_i kt I F;split at h
   ·rename_i kk H;split at h
    ·rename_i G;obtain⟨w',j,q,B,rfl,C⟩:=sL (P:=P) F H G J O (g m (by simp[Op.operands])) (g k (by simp[Op.operands])) (g x (by simp[Op.operands])) h;exact⟨ι,w',.skip,undef,by simp only[execOp,run_bind,j,run_pure],.inr ⟨rfl,rfl⟩,q,B,jQ,C⟩
    ·cases h
   ·cases h
  ·cases h
 |call c=>
  obtain⟨callee,args,argTypes⟩:=c;cases callee with
  |value f=>simp[Cy]at h
  |invoke r n=>simp[Cy]at h
  |builtin b=>
   have N:∀x∈args,aT ι (ev x) (ρ x):=λx Z=>g x (by simp[Op.operands,Call.operands,Z])
   cases b<;>first | (simp[Cy]at h;done) | skip
   ·simp only[Cy]at h;split at h
    ·rename_i s x t' X E D;have R:=two E;have I:=two D;subst R I;split at h
     ·rename_i el F;split at h
      ·rename_i n b z Q Sl V;split at h
       ·rename_i U;obtain⟨κ,v,w',j,q,B,S,C⟩:=Ar (P:=P) (ty:=ty) F Q Sl V U.2.2 U.1 U.2.1 J O Sm (N s (by simp)) (N x (by simp)) h;refine⟨κ,w',.value v,v,?_,.inl rfl,q,B,S,C⟩;simp[execOp,resolve,invoke,Go.builtin,run_bind,run_pure,j]
       ·split at h
        ·rename_i U;obtain⟨κ,v,w',j,q,B,S,C⟩:=F7 (P:=P) (ty:=ty) F Q Sl V U.2.2 U.1 U.2.1 J O Sm (N s (by simp)) (N x (by simp)) h;refine⟨κ,w',.value v,v,?_,.inl rfl,q,B,S,C⟩;simp[execOp,resolve,invoke,Go.builtin,run_bind,run_pure,j]
        ·cases h
      ·cases h
     ·cases h
    ·cases h
   ·simp only[Cy]at h;split at h
    ·rename_i x t' E D;have R:=one E;have I:=one D;subst R I;split at h
     ·rename_i el F;split at h
      ·rename_i n z Q V;split at h
       ·rename_i Sj;obtain⟨w',j,q,B,rfl,C⟩:=CA (P:=P) (ty:=ty) F Q V Sj J O (N x (by simp)) h;refine⟨ι,w',.value undef,undef,?_,.inl rfl,q,B,jQ,C⟩;simp[execOp,resolve,invoke,Go.builtin,run_bind,run_pure,j]
       ·cases h
      ·cases h
     ·cases h
    ·cases h
   ·simp only[Cy]at h;split at h
    ·rename_i d x t' X E D;have R:=two E;have I:=two D;subst R I;split at h
     ·rename_i el F;split at h
      ·rename_i n Q;obtain⟨v,w',j,q,B,S,C⟩:=F5 (P:=P) (u:=X) (ty:=ty) F Q J O (N d (by simp)) (N x (by simp)) h;refine⟨ι,w',.value v,v,?_,.inl rfl,q,B,S,C⟩;simp[execOp,resolve,invoke,Go.builtin,run_bind,run_pure,j]
      ·cases h
     ·cases h
    ·cases h
   ·simp only[Cy]at h;split at h
    ·rename_i m k t' X E D;have R:=two E;have I:=two D;subst R I;split at h
     ·rename_i kt I F;split at h
      ·rename_i kk H;split at h
       ·rename_i G;obtain⟨w',j,q,B,rfl,C⟩:=Aw (P:=P) (t':=X) (ty:=ty) F H G J O (N m (by simp)) (N k (by simp)) h;refine⟨ι,w',.value undef,undef,?_,.inl rfl,q,B,jQ,C⟩;simp[execOp,resolve,invoke,Go.builtin,run_bind,run_pure,j]
       ·cases h
      ·cases h
     ·cases h
    ·cases h
 |_=>simp[Cy]at h
end
abbrev bc:=FuncId->List T->St->Option (T×St)
def fO(P:Program)(f:FuncId):Bool:=
 match P.funcs[f]? with
 |some fn=>fn.body.isSome&&fn.name != "runtime.NumGoroutine"
 |none=>false
def yF(p:Nat×Nat):T:=Z (.ptr p.1 p.2)
def xH(fn:Func)(n:String):Option (Array Value->Sem Value):=
 (Extern.allGenericRows.lookup n).map (· fn.targs fn.params fn.resultTypes) <|> (Extern.allTypedRows.lookup n).map (· fn.params fn.resultTypes) <|> Extern.allRows.lookup n
def Lg(P:Program)(f:FuncId):Bool:=
 match P.funcs[f]? with
 |some fn => !(fn.name == "runtime.NumGoroutine")&&fn.body.isNone&&(Extern.findNext fn).isNone&&(xH fn fn.name).isNone&&decide (fn.origin = "slices.overlaps")&&(match fn.params[0]? with
  |some t=>match P.underlying t with
   |some (.slice e)=>(dH P e).isSome
   |_=>false
  |none=>false)
 |none=>false
def Eu(P:Program)(f:FuncId)(c:List T)(g:Mem):Option T:=
 match c with
 | [.v (.s (.sl i _ _ _)),.v (.s (.sl j _ _ _))]=>match g i,g j with
   |some (.K true _),some (.K true _)=>match Nat.beq i j with
    |true=>none
    |false=>match Lg P f with
     |true=>some (Z (.bool false))
     |false=>none
   |_,_=>none
 |_=>none
def wz(P:Program)(f:FuncId)(c:List T)(σ:St):Option (T×St):=match Eu P f c σ.get with
 |some t=>some (t,σ)
 |none=>none
def BM(P:Program)(aC:bc)(op:Op)(ev:Operand->T)(σ:St):Option (T×St):=
 match op with
 | .call { callee := .value f,args,.. }=>match ev f with
   | .v (.s (.jX g c))=>if fO P g then aC g (args.toList.map ev++c.map yF) σ else wz P g (args.toList.map ev++c.map yF) σ
   |_=>none
 |op=>Cy P op ev σ
structure aS(P:Program)(aC:bc):Prop where
 wf:∀f ts σ t τ,aC f ts σ=some (t,τ)->σ.wf->τ.wf/\σ.size<=τ.size
 calls:∀f ts σ t τ,aC f ts σ=some (t,τ)->σ.wf->∀ι w vs,Rel ι σ.get w->kE ι σ.size τ.size->bC (aT ι) ts vs →
  Calls P f vs.toArray w λe u=>∃κ v,e = .returned v/\Ext ι σ w κ τ u/\Rel κ τ.get u/\aT κ t v
inductive K where
 |P | L | A | W
 deriving DecidableEq
def kindOf(P:Program)(op:Op):K:=
 match op with
 | .load _ _ => .L
 | .lookup _ _ _ _ => .L
 | .convert s d _=>match P.underlying s,P.underlying d with
   |some (.slice _),some .string => .L
   |some .string,some (.slice _) => .A
   |some (.slice _),some (.slice _) => .W
   |_,_ => .P
 | .alloc _ => .A
 | .box _ _ => .A
 | .buildSlice _ _ _ => .A
 | .makeMap _ _ => .A
 | .makeSlice _ _ _ => .A
 | .store _ _ _ => .W
 | .mapUpdate _ _ _ _ => .W
 | .insert _ _ _ _ => .W
 | .call { callee := .builtin .len,argTypes,.. }=>match argTypes.toList with
   | [t]=>match P.underlying t with
     |some (.map _ _) => .L
     |_ => .P
   |_ => .P
 | .call { callee := .builtin .cap,.. } => .P
 | .call { callee := .builtin .min,.. } => .P
 | .call { callee := .builtin .max,.. } => .P
 | .call _ => .W
 |_ => .P
def ct(c:List T)(dst:Option Tmp)(t:T):List T:=
 match dst with
 |some d=>c.set d t
 |none=>c
def dB(ops:List Oper)(c:List T)(o:Oper):Option Bool:=
 match o.guard with
 |none=>some true
 |some (j,want)=>match ops[j]? with
  |none=>some false
  |some e=>match e.dst with
   |none=>some false
   |some d=>match c.getD d .any with
    | .any=>none
    | .v (.s .any)=>none
    | .v (.s (.bool b))=>some (b == want)
    |_=>some false
def step(P:Program)(aC:bc)(ops:List Oper)(o:Oper)(s:List T×St):Option (List T×St):=
 match dB ops s.1 o with
 |none=>none
 |some false=>some (ct s.1 o.dst tt,s.2)
 |some true=>match kindOf P o.op with
  | .P=>match qP P o.op (rF s.1)with
    |some t=>some (ct s.1 o.dst t,s.2)
    |none=>none
  | .L=>match tP P o.op (rF s.1) s.2.get with
    |some t=>some (ct s.1 o.dst t,s.2)
    |none=>none
  | .A=>match zk P o.op (rF s.1)with
    |some (b,f)=>some (ct s.1 o.dst (f s.2.size),s.2.push b)
    |none=>none
  | .W=>match BM P aC o.op (rF s.1) s.2 with
    |some (t,c)=>some (ct s.1 o.dst t,c)
    |none=>none
def kj(P:Program)(aC:bc)(ops:List Oper):List Oper->List T×St->Option (List T×St)
 | [],s=>some s
 |o::r,s=>match step P aC ops o s with
  |some c=>kj P aC ops r c
  |none=>none
section
variable {P:Program}{aC:bc}{ι:cV}{w:World}{σ:St}
theorem PW{op:Op}{ev:Operand->T}{t:T}{g:St}(q:σ.wf)(h:Cy P op ev σ=some (t,g)):g.wf/\σ.size<=g.size:=by
 have j:∀{i:Nat} {b r:er},σ.get i=some b->(σ.set i r).wf/\σ.size<=(σ.set i r).size:=λu=>⟨St.wf_set q (q.lt u) _,au _⟩
 have o:∀b:er,(σ.push b).wf/\σ.size<=(σ.push b).size:=λb=>⟨St.bo q b,by simp⟩
 have w:∀{i:Nat} {b r c:er},σ.get i=some b->((σ.set i r).push c).wf/\σ.size<=((σ.set i r).push c).size:=λu=>⟨St.bo (St.wf_set q (q.lt u) _) _,by simp⟩
 have hid:σ.wf/\σ.size<=σ.size:=⟨q,au _⟩
 have y:∀n a x,aj n a x σ=some (t,g)->g.wf/\σ.size<=g.size:=by
  intro n a x h;unfold aj at h
  (repeat' split at h)<;>first | (cases h;done) | (cases h;exact j ‹_›)
 have B:∀m k x,kG m k x σ=some (t,g)->g.wf/\σ.size<=g.size:=by
  intro n a x h;unfold kG at h
  (repeat' split at h)<;>first | (cases h;done) | (cases h;exact j ‹_›)
 have C:∀m k,mj m k σ=some (t,g)->g.wf/\σ.size<=g.size:=by
  intro n a h;unfold mj at h
  (repeat' split at h)<;>first | (cases h;done) | (cases h;first | exact hid | exact j ‹_›)
 have D:∀e b s x,aF e b s x σ=some (t,g)->g.wf/\σ.size<=g.size:=by
  intro e b s x h;unfold aF at h
  (repeat' split at h)<;>first | (cases h;done) | (cases h;first | exact hid | exact o _ | exact j ‹_› | exact w ‹_›)
 have G:∀e b z s x,nN e b z s x σ=some (t,g)->g.wf/\σ.size<=g.size:=by
  intro e b z s x h;unfold nN at h
  (repeat' split at h)<;>first | (cases h;done) | (cases h;exact o _)
 have E:∀e d x,jc e d x σ=some (t,g)->g.wf/\σ.size<=g.size:=by
  intro e d x h;unfold jc at h
  (repeat' split at h)<;>first | (cases h;done) | (cases h;first | exact hid | exact j ‹_›)
 have H:∀e z x,nM e z x σ=some (t,g)->g.wf/\σ.size<=g.size:=by
  intro e z x h;unfold nM at h
  (repeat' split at h)<;>first | (cases h;done) | (cases h;first | exact hid | exact j ‹_›)
 have F:∀x,Ax x σ=some (t,g)->g.wf/\σ.size<=g.size:=by
  intro x h;unfold Ax at h
  (repeat' split at h)<;>first | (cases h;done) | (cases h;exact j ‹_›)
 unfold Cy at h
 (repeat' split at h)<;>first | (cases h;done) | exact y _ _ _ h | exact B _ _ _ h | exact C _ _ h | exact D _ _ _ _ h | exact E _ _ _ h | exact F _ h | exact H _ _ _ h | exact G _ _ _ _ _ h
theorem Oz(c:aS P aC){op:Op}{ev:Operand->T}{t:T}{b:St}(a:σ.wf)(h:BM P aC op ev σ=some (t,b)):b.wf/\σ.size<=b.size:=by
 unfold BM at h;split at h
 ·split at h
  ·split at h
   ·exact c.wf _ _ _ _ _ h a
   ·unfold wz at h;split at h
    ·cases h;exact⟨a,au _⟩
    ·cases h
  ·cases h
 ·exact PW a h
theorem ov{o:Oper}{a:Act}{nx:Next}{v:Value}{u:World}{K':Act->World->Prop}{Q:Exit->Act->World->Prop}(h:(execOp a.eval o).run P w = .ok nx u)(d:nx = .value v\/nx = .skip/\v=undef)
 (c:K' (a.put o.dst v) u):o.wp P a w K' Q:=by
 unfold Oper.wp;rw[h];rcases d with rfl | ⟨rfl,rfl⟩
 ·exact c
 ·exact c
theorem yD{f:FuncId}{args:Array Value}(h:fO P f=true):(callFunc f args).run P w = .ok (.enter f args) w:=by
 unfold fO at h;cases e:P.funcs[f]? with
 |none=>rw[e]at h;cases h
 |some fn=>
  rw[e]at h;simp only[aM,bne_iff_ne,ne_eq]at h
  have d:fn.body.isNone=false:=by
   cases d:fn.body with
   |none=>rw[d]at h;simp at h
   |some c=>rfl
  simp only[callFunc,run_bind,program,Sem.run,e];rw[ae (by simpa using h.2),ae (by simp[d])];rfl
theorem F9{f:FuncId}{Sk:List T}{t:T}{vs:List Value}(H:Rel ι σ.get w)(d:bC (aT ι) Sk vs)(h:Eu P f Sk σ.get=some t) :
 ∃v,(callFunc f vs.toArray).run P w = .ok (.value v) w/\aT ι t v:=by
 unfold Eu at h;split at h
 ·rename_i i o n c j p m q;split at h
  ·rename_i xs ys hi hj;split at h
   ·cases h
   ·rename_i N;split at h
    ·rename_i r;cases h;cases d with
     |cons h1 d=>
      cases d with
      |cons h2 d=>
       cases d;obtain⟨L,S,hL,rfl,_⟩:=iP h1;obtain⟨M,U,hM,rfl,_⟩:=iP h2;obtain⟨ca,ea,F,X,Sm,Sn,a4,a5⟩:=H.blk i L _ hL hi;obtain⟨cb,eb,G,Y,b2,b3,b4,b5⟩:=H.blk j M _ hM hj;have ha:F.1=F.2:=(by have:=(a5 rfl).1;omega);have Sj:G.1=G.2:=(by have:=(b5 rfl).1;omega);have k:L.b≠M.b:=H.sep i j L M hL hM (by rw[hi];trivial) (by rw[hj];trivial) (λe=>by subst e;simp at N);unfold Lg at r;split at r
       ·rename_i fn J;simp only[aM,ku,bK]at r;obtain⟨⟨⟨⟨⟨Sl,o2⟩,o3⟩,o4⟩,o5⟩,D⟩:=r
        have g:Extern.find fn=some (Extern.SlicesOverlaps.overlaps fn.params fn.resultTypes):=by
         have e1:Extern.find fn=(xH fn fn.name <|> xH fn fn.origin):=rfl;have e2:xH fn fn.name=none:=FX.1 o4
         have e3:xH fn "slices.overlaps"=some (Extern.SlicesOverlaps.overlaps fn.params fn.resultTypes):=by
          unfold xH;have g1:Extern.allGenericRows.lookup "slices.overlaps"=none:=by kernel_rfl
          have g2:Extern.allTypedRows.lookup "slices.overlaps"=some Extern.SlicesOverlaps.overlaps:=by kernel_rfl
          rw[g1,g2];rfl
         rw[e1,e2,o5,e3];rfl
        rw[run_callFunc_extern J Sl o2 (FX.1 o3) g];split at D
        ·rename_i Sp B;split at D
         ·rename_i e he;obtain⟨z,hz⟩:=zY.1 D
          have O:∀(b E:Nat),b=L.b\/b=M.b->w.frozen? ⟨b,E,none⟩=false:=by
           intro b E I;rcases I with rfl | rfl
           ·simp only[World.frozen?,X];obtain⟨x,y⟩:=F;simp only at ha;subst ha;simp
           ·simp only[World.frozen?,Y];obtain⟨x,y⟩:=G;simp only at Sj;subst Sj;simp
          have Q:w.shape? L.b=some (ea,ca.size):=(by unfold World.shape?;rw[X]);have R:w.shape? M.b=some (eb,cb.size):=by unfold World.shape?;rw[Y]
          have u:(Extern.SlicesOverlaps.overlaps fn.params fn.resultTypes #[.slice (some ⟨L.b,L.base+o,none⟩) n S,.slice (some ⟨M.b,M.base+p,none⟩) m U]).run P w = .ok (.bool false) w:=by
           have C:=λw=>dy (P:=P) (w:=w) hz
           have nb:(L.b != M.b)=true:=by simpa using k
           have V:(L.b == M.b)=false:=by simpa using k
           change Sem.run P (α:=Value) (do
            let some t:=fn.params[0]? | stuck "slices.overlaps: no parameter types"
            let .slice elem <-underlying t | stuck "slices.overlaps: slice type expected"
            let size <-sizeOf elem
            match (some (⟨L.b,L.base+o,none⟩:Addr):Option Addr),(some (⟨M.b,M.base+p,none⟩:Addr):Option Addr)with
            |some a,some b=>
             if n=0\/m=0\/size=0 then pure (Value.bool false)
             else if a.block != b.block&&(<-frozen a)&&(<-frozen b)then unsupported .addressObserved
             else do
              if a.block != b.block then do
               noView a;noView b
               if <-mayBeOne a b then return Value.bool ((<-choose _) == 1)
              pure (Value.bool (a.block == b.block&&a.off<b.off+m*size&&b.off<a.off+n*size))
            |_,_=>pure (Value.bool false)) w=_
           by_cases Z:n=0\/m=0\/z=0
           ·simp[B,run_underlying he,C,Z]
           ·simp[B,run_underlying he,C,Z,nb,V,frozen,noView,viewAt,mayBeOne,stringish,shape,Sem.run,Q,R,O]
          rw[show([Value.slice (some ⟨L.b,L.base+o,none⟩) n S,.slice (some ⟨M.b,M.base+p,none⟩) m U]:List Value).toArray = #[.slice (some ⟨L.b,L.base+o,none⟩) n S,.slice (some ⟨M.b,M.base+p,none⟩) m U] from rfl,u];exact⟨_,rfl,rfl⟩
         ·cases D
        ·cases D
       ·cases r
    ·cases h
  ·cases h
 ·cases h
theorem E7(hs:aS P aC){o:Oper}{a:Act}{ev:Operand->T}{t:T}{G:St}{K':Act->World->Prop}{Q:Exit->Act->World->Prop}(E:Rel ι σ.get w)(X:σ.wf)(V:kE ι σ.size G.size)
 (k:∀x∈o.op.operands,aT ι (ev x) (a.eval x)) (h:BM P aC o.op ev σ=some (t,G))
 (N:∀κ u v,Ext ι σ w κ G u->Rel κ G.get u->aT κ t v->K' (a.put o.dst v) u):o.wp P a w K' Q:=by
 unfold BM at h;split at h
 ·rename_i f args at_ D;split at h
  ·rename_i g z F;split at h
   ·rename_i hc;have q:=k f (by rw[D];simp[Op.operands,Call.operands]);rw[F]at q;obtain⟨cs,n,C⟩:=q;have c:bC (aT ι) (args.toList.map ev) (args.toList.map a.eval):=l5 λx S=>k x (by rw[D];simp[Op.operands,Call.operands];exact .inr (by simpa using S))
    have d:bC (aT ι) (z.map yF) cs:=by
     clear n F h;induction C with
     |nil=>exact .nil
     |cons r _ U=>exact .cons r U
    have j:=cd c d;have B:=hs.calls _ _ _ _ _ h X ι w _ E V j
    have y:(execOp a.eval o).run P w = .ok (.enter g (args.toList.map a.eval++cs).toArray) w:=by
     have H:((args.map a.eval)++cs.toArray:Array Value)=(args.toList.map a.eval++cs).toArray:=by
      apply D7.1;simp
     simp only[execOp,D,resolve,run_bind,n,Deferred.ofValue,run_pure,invoke];rw[Pk,H];exact yD hc
    unfold Oper.wp;rw[y];refine Calls.mono B ?_;rintro e u ⟨κ,v,rfl,hE,O,hT⟩;exact N κ u v hE O hT
   ·have q:=k f (by rw[D];simp[Op.operands,Call.operands]);rw[F]at q;obtain⟨cs,n,C⟩:=q;have c:bC (aT ι) (args.toList.map ev) (args.toList.map a.eval):=l5 λx S=>k x (by rw[D];simp[Op.operands,Call.operands];exact .inr (by simpa using S))
    have d:bC (aT ι) (z.map yF) cs:=by
     clear n F h;induction C with
     |nil=>exact .nil
     |cons r _ U=>exact .cons r U
    have j:=cd c d;unfold wz at h;split at h
    ·rename_i t' R;cases h;obtain⟨v,I,J⟩:=F9 (w:=w) E j R
     have y:(execOp a.eval o).run P w = .ok (.value v) w:=by
      have H:((args.map a.eval)++cs.toArray:Array Value)=(args.toList.map a.eval++cs).toArray:=by
       apply D7.1;simp
      simp only[execOp,D,resolve,run_bind,n,Deferred.ofValue,run_pure,invoke];rw[Pk,H];exact I
     exact ov y (.inl rfl) (N ι w v (Ext.refl _ _ _) E J)
    ·cases h
  ·cases h
 ·obtain⟨κ,u,nx,v,I,J,Y,Z,h5,_⟩:=OA E X V k h;exact ov I J (N κ u v Y Z h5)
theorem K9{o:Oper}{a:Act}{ev:Operand->T}{b:er}{f:Nat->T}{K':Act->World->Prop}{Q:Exit->Act->World->Prop}
 (c:∀x∈o.op.operands,aT ι (ev x) (a.eval x)) (h:zk P o.op ev=some (b,f))
 (i:∀L u v,lP ι w u L b->(∀n,aT (yj ι n L) (f n) v)->K' (a.put o.dst v) u):o.wp P a w K' Q:=by
 obtain⟨L,v,u,d,e,g⟩:=Ov c h w;exact ov d (.inl rfl) (i L u v e g)
theorem Lc{o:Oper}{a:Act}{ev:Operand->T}{t:T}{K':Act->World->Prop}{Q:Exit->Act->World->Prop}
 (b:∀x∈o.op.operands,aT ι (ev x) (a.eval x)) (h:qP P o.op ev=some t) (e:∀v,aT ι t v->K' (a.put o.dst v) w):o.wp P a w K' Q:=by
 obtain⟨v,c,d⟩:=Oy (w:=w) b h;exact ov c (.inl rfl) (e v d)
theorem Lb{g:Mem}{o:Oper}{a:Act}{ev:Operand->T}{t:T}{K':Act->World->Prop}{Q:Exit->Act->World->Prop}(f:Rel ι g w)
 (b:∀x∈o.op.operands,aT ι (ev x) (a.eval x)) (h:tP P o.op ev g=some t) (e:∀v,aT ι t v->K' (a.put o.dst v) w):o.wp P a w K' Q:=by
 obtain⟨v,c,d⟩:=Ox f b h;exact ov c (.inl rfl) (e v d)
structure jG(ι:cV)(env:List T)(tmps:Array Value):Prop where
 len:env.length<=tmps.size
 rel:∀t,aT ι (env.getD t .any) (tmps.getD t undef)
theorem jG.mono{κ:cV}(h:ι.le κ){a:List T}{tmps:Array Value}(k:jG ι a tmps):jG κ a tmps:=⟨k.len,λt=>(k.rel t).mono h⟩
theorem vp(a:List T)(d t:Nat)(x:T):(a.set d x).getD t .any=if d=t/\d<a.length then x else a.getD t .any:=by
 rw[dq,dq];by_cases e:d=t
 ·subst e;by_cases b:d<a.length
  ·rw[oW b,af ⟨rfl,b⟩];rfl
  ·rw[ae (by omega),FJ (by omega)]
 ·rw[rv e,ae (by omega)]
theorem rX(tmps:Array Value)(d t:Nat)(v:Value):(tmps.setIfInBounds d v).getD t undef=if d=t/\d<tmps.size then v else tmps.getD t undef:=by
 rw[rE,rE];by_cases e:d=t
 ·subst e;by_cases b:d<tmps.size
  ·rw[sE b,af ⟨rfl,b⟩];rfl
  ·rw[ae (by omega)]
   have:tmps.setIfInBounds d v=tmps:=by
    apply wA;intro j;by_cases a:d=j
    ·subst a;rw[Pm (by simp;omega),Pm (by omega)]
    ·rw[mW a]
   rw[this]
 ·rw[mW e,ae (by omega)]
theorem jG.put{c:List T}{a:Act}{t:T}{v:Value}(h:jG ι c a.tmps)(dst:Option Tmp)(j:aT ι t v):jG ι (ct c dst t) (a.put dst v).tmps:=by
 cases dst with
 |none=>exact h
 |some d=>
  refine⟨?_,?_⟩
  ·simp only[ct,Act.put,iU,Mi];exact h.len
  ·intro k;simp only[ct,Act.put];rw[vp,rX];by_cases e:d=k
   ·subst e;by_cases g:d<c.length
    ·rw[af ⟨rfl,g⟩,af ⟨rfl,bh g h.len⟩];exact j
    ·rw[ae (λh=>g h.2)];have:c.getD d .any = .any:=(by rw[dq,iS (nf g)];rfl);rw[this];trivial
   ·rw[ae (λh=>e h.1),ae (λh=>e h.1)];exact h.rel k
theorem sB{ops:Array Oper}{B:List T}{r:Array Value}{o:Oper}{b:Bool}(h:dB ops.toList B o=some b)
 (O:∀j want F d,o.guard=some (j,want)->ops[j]? = some F->F.dst=some d->aT ι (B.getD d .any) (r.getD d undef)):Region.wanted o (yielded ops r)=b:=by
 unfold dB at h;unfold Region.wanted;split at h
 ·rename_i u;rw[u];cases h;rfl
 ·rename_i j want u;rw[u];simp only;split at h
  ·rename_i w;cases h;rw[na]at w;simp[yielded,w]
  ·rename_i F w;rw[na]at w;split at h
   ·rename_i D;cases h;simp[yielded,w,D]
   ·rename_i d D;have g:=O j want F d u w D
    have H:∀x:Value,(∀q,x ≠ .bool q)->r.getD d undef=x->yielded ops r j=none:=by
     intro x R C;simp only[yielded,w,o5,D];rw[rE]at C;cases E:r[d]? with
     |none=>rfl
     |some y=>
      rw[E]at C;simp only[nh]at C;subst C;cases y<;>first | rfl | exact(R _ rfl).elim
    split at h
    ·cases h
    ·cases h
    ·rename_i q C;cases h;rw[C]at g;simp only[aT,cz,bG]at g
     have:yielded ops r j=some q:=by
      simp only[yielded,w,o5,D];rw[rE]at g;cases E:r[d]? with
      |none=>rw[E]at g;cases g
      |some y=>rw[E]at g;simp only[nh]at g;subst g;rfl
     rw[this];cases q<;>cases want<;>rfl
    ·rename_i J I N;cases h;generalize S:B.getD d .any=x at g I J N
     have G:∀q,r.getD d undef ≠ .bool q:=by
      intro q Q;rw[Q]at g;cases x with
      |any=>exact J rfl
      |c6 l=>obtain⟨vs,e,_⟩:=g;cases e
      |v y=>cases y with
       |agg l=>obtain⟨vs,e,_⟩:=g;cases e
       |s z=>
        cases z with
        |bool b=>exact N b rfl
        |int k n=>cases g
        |str l=>obtain⟨_,e,_⟩:=g;cases e
        |ptr i o=>obtain⟨_,_,e⟩:=g;cases e
        |c9=>cases g
        |sl i o n c=>obtain⟨_,_,_,e,_⟩:=iP g;cases e
        |emp i e=>obtain⟨_,_,_,_,e,_⟩:=g;cases e
        |av=>cases g
        |map i=>obtain⟨_,_,e⟩:=g;cases e
        |pb=>cases g
        |jX f c=>obtain⟨_,e,_⟩:=g;cases e
        |wO=>cases g
        |k5=>cases g
        |H0 t i n=>obtain⟨_,_,_,_,_,e⟩:=g;cases e
        |buf q i n=>obtain⟨_,_,_,_,_,_,_,_,e⟩:=g;cases e
        |any=>exact I rfl
     rw[H _ G rfl];cases want<;>rfl
end
section
variable {P:Program}{aC:bc}
theorem ur(c:aS P aC){ops:List Oper}{o:Oper}{s b:List T×St}(h:step P aC ops o s=some b)(a:s.2.wf):b.2.wf/\s.2.size<=b.2.size:=by
 unfold step at h;split at h
 ·cases h
 ·cases h;exact⟨a,au _⟩
 ·split at h
  ·split at h
   ·cases h;exact⟨a,au _⟩
   ·cases h
  ·split at h
   ·cases h;exact⟨a,au _⟩
   ·cases h
  ·split at h
   ·cases h;exact⟨St.bo a _,by simp⟩
   ·cases h
  ·split at h
   ·rename_i t e d;cases h;exact Oz c a d
   ·cases h
theorem sw(g:aS P aC){ops:List Oper}:∀{l:List Oper} {s c:List T×St},kj P aC ops l s=some c->s.2.wf->c.2.wf/\s.2.size<=c.2.size:=by
 intro l;induction l with
 |nil=>intro s c h d;cases h;exact⟨d,au _⟩
 |cons o l j=>
  intro s c h d;simp only[kj]at h;split at h
  ·rename_i q e;obtain⟨w1,z1⟩:=ur g e d;obtain⟨k,n⟩:=j h w1;exact⟨k,bl z1 n⟩
  ·cases h
theorem put_defers(a:Act)(d:Option Tmp)(v:Value):(a.put d v).defers=a.defers:=by cases d<;>rfl
theorem O0(G:aS P aC){ops:Array Oper}{i:Nat}{o:Oper}{l g:List T}{σ r:St}{ι:cV}{a:Act}{w:World}{K':Act->World->Prop}{Q:Exit->Act->World->Prop}
 (hi:ops[i]? = some o) (h:step P aC ops.toList o (l,σ)=some (g,r)) (k:jG ι l a.tmps) (n:Rel ι σ.get w) (I:σ.wf) (A:kE ι σ.size r.size)
 (p:∀κ u s,s.defers=a.defers->jG κ g s.tmps->Ext ι σ w κ r u->Rel κ r.get u->K' s u):wpOp P ops Q i K' a w:=by
 unfold wpOp;rw[hi];simp only;unfold step at h;have e:∀x∈o.op.operands,aT ι (rF l x) (a.eval x):=λx _=>EC k.rel x
 split at h
 ·cases h
 ·rename_i q;have m:=sB q (λj want H d _ _ _=>k.rel d);rw[m];cases h;simp only[eP,cN];exact p ι w _ (put_defers ..) (k.put _ jQ) (Ext.refl _ _ _) n
 ·rename_i q;have m:=sB q (λj want H d _ _ _=>k.rel d);rw[m];simp only[bY];left;split at h
  ·split at h
   ·rename_i t B;cases h;exact Lc e B λv C=>p ι w _ (put_defers ..) (k.put _ C) (Ext.refl _ _ _) n
   ·cases h
  ·split at h
   ·rename_i t B;cases h;exact Lb n e B λv C=>p ι w _ (put_defers ..) (k.put _ C) (Ext.refl _ _ _) n
   ·cases h
  ·split at h
   ·rename_i b f F;cases h;refine K9 (w:=w) e F λL u v D z => ?_
    have c:ι σ.size=none:=A σ.size (au _) (by simp);refine p _ u _ (put_defers ..) ((k.mono (y9 L c)).put _ (z σ.size)) (mr D) ?_;rw[jo];exact lH n c D
   ·cases h
  ·split at h
   ·rename_i t J q;cases h;refine E7 G n I A e q λκ u v E y z => ?_
    exact p κ u _ (put_defers ..) ((k.mono (E.le A)).put _ z) E y
   ·cases h
theorem DQ(J:aS P aC){ops:Array Oper}{Q:Exit->Act->World->Prop}:∀(l:List Oper) (k:Nat) (d c:List T) (σ e:St) (ι:cV) (a:Act) (w:World),
 ops.toList.drop k=l->kj P aC ops.toList l (d,σ)=some (c,e)->jG ι d a.tmps->Rel ι σ.get w->σ.wf->kE ι σ.size e.size →
 (∀κ u g,g.defers=a.defers->jG κ c g.tmps->Ext ι σ w κ e u->Rel κ e.get u->Q .normal g u)->wpOps P ops Q (List.range' k l.length) a w:=by
 intro l;induction l with
 |nil=>
  intro k d c σ e ι a w F h y C N I B;cases h
  simpa[wpOps]using B ι w a rfl y (Ext.refl _ _ _) C
 |cons o l X=>
  intro k d c σ e ι a w F h y C N I B;simp only[kj]at h;split at h
  ·rename_i Y S;obtain⟨j,R⟩:=Y;obtain⟨t,z1⟩:=ur J S N;obtain⟨_,z2⟩:=sw J h t
   have V:ops[k]? = some o:=by
    have:=bw (·[0]?) F
    simpa using this
   have G:ops.toList.drop (k+1)=l:=by
    have:=bw List.tail F
    simpa using this
   rw[bB,FC,wpOps_cons];refine O0 J V S y C N (I.sub (au _) z2) λκ u g H z U D => ?_
   refine X (k+1) j c R e κ g u G h z D t (I.next U) λO Z x r n E q => ?_
   exact B O Z x (r.trans H) n (U.trans E) q
  ·cases h
theorem DE(k:aS P aC){id:Nat}{ops:Array Oper}{Q:Exit->Act->World->Prop}{c b:List T}{σ d:St}{ι:cV}{a:Act}{w:World}
 (h:kj P aC ops.toList ops.toList (c,σ)=some (b,d)) (f:jG ι c a.tmps) (i:Rel ι σ.get w) (l:σ.wf) (j:kE ι σ.size d.size)
 (g:∀κ u e,e.defers=a.defers->jG κ b e.tmps->Ext ι σ w κ d u->Rel κ d.get u->Q .normal e u):(Code.region id ops false).wp P Q a w:=by
 refine wp_region ?_;have:=DQ k (Q:=Q) ops.toList 0 c b σ d ι a w (by simp) h f i l j g;rw[gf]at this;rw[List.range_eq_range'];exact this
end
end Go.Abs
