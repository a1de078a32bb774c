/-
  A library of our own, several texts in one: an abstract store for the model, and runs over it. Nothing here speaks of any program. No conditions.
-/
import Derived.Test.YtbohejffelipoaaGreatDoorAbsA
import Derived.Lib.AppendZerosOnto
import Derived.Laws.Externs
namespace Go.Abs
open Go
def qM (g:Mem) (n:Nat) (b:dO):Mem:=fun i=>if i=n then some b else g i
theorem pM (g:Mem) (n:Nat) (b:dO):qM g n b n=some b:=by simp [qM]
theorem ij (g:Mem) {n i:Nat} (b:dO) (h:i≠n):qM g n b i=g i:=by simp [qM,h]
theorem fW (σ:St) (b:dO):(σ.push b).get=qM σ.get σ.size b:=by
 funext i;rw [St.sJ];rfl
structure ji (ι:bP) (w u:World) (L:Loc) (b:dO):Prop where
 FH:L.b=w.heap.size
 os:u.os=w.os
 output:u.output=w.output
 size:u.heap.size=w.heap.size+1
 keep:∀ k,k<w.heap.size->u.heap[k]? = w.heap[k]?
 blk:dL ι L u b
theorem jc {ι:bP} {g:Mem} {w u:World} {L:Loc} {b:dO} {n:Nat} (h:Rel ι g w) (hf:ι n=none) (hN:ji ι w u L b):Rel (qL ι n L) (qM g n b) u:=by
 have hle:=wW L hf
 constructor
 · intro i M c hM hc
   by_cases e:i=n
   · subst e
     rw [bq] at hM;cases hM
     rw [pM] at hc;cases hc
     exact hN.blk.mono hle
   · rw [eE _ _ e] at hM
     rw [ij _ _ e] at hc
     have hr:=h.blk i M c hM hc
     cases c with
     | dead=>trivial
     | cells own vs=>exact (hr.mono hle).congr (hN.keep _ (hr.lt trivial))
     | map es=>exact (hr.mono hle).congr (hN.keep _ (hr.lt trivial))
     | dN g vs=>exact (hr.mono hle).congr (hN.keep _ (hr.lt trivial))
 · intro i j M N hM QQ hl hh hne
   by_cases e:i=n
   · subst e
     rw [bq] at hM;cases hM
     have ej:j≠i:=fun x=>hne x.symm
     rw [eE _ _ ej] at QQ
     rw [ij _ _ ej] at hh
     cases hg:g j with
     | none=>rw [hg] at hh;exact hh.elim
     | some c =>
       rw [hg] at hh
       have:=(h.blk j N c QQ hg).lt hh
       have:=hN.FH
       omega
   · rw [eE _ _ e] at hM
     rw [ij _ _ e] at hl
     by_cases ej:j=n
     · subst ej
       rw [bq] at QQ;cases QQ
       cases hg:g i with
       | none=>rw [hg] at hl;exact hl.elim
       | some c =>
         rw [hg] at hl
         have:=(h.blk i M c hM hg).lt hl.held
         have:=hN.FH
         omega
     · rw [eE _ _ ej] at QQ
       rw [ij _ _ ej] at hh
       exact h.sep i j M N hM QQ hl hh hne
 · intro i m vs hg
   by_cases e:i=n
   · subst e;exact ⟨_,bq _ _ _⟩
   · rw [ij _ _ e] at hg
     obtain ⟨M,hM⟩:=h.dN i m vs hg
     exact ⟨M,by rw [eE _ _ e];exact hM⟩
theorem jQ {ι:bP} {σ:St} {w u:World} {L:Loc} {b:dO} (hN:ji ι w u L b):Ext ι σ w (qL ι σ.size L) (σ.push b) u:=by
 refine ⟨by simp,?_,?_,?_,?_,?_,hN.os,hN.output,by rw [hN.size];omega,?_⟩
 · intro i hi
   simp only [St.size_push] at hi
   exact eE _ _ (by omega)
 · intro i hi hl
   rwa [jX (by omega)] at hl
 · intro i hi hl
   rwa [jX (by omega)] at hl
 · intro i hi _
   exact jX (by omega)
 · intro i M h1 h2 hM hl
   simp only [St.size_push] at h2
   have:i=σ.size:=by omega
   subst this
   rw [bq] at hM
   cases hM
   exact .inl (by rw [hN.FH];exact Nat.le_refl _)
 · intro k hk _
   exact hN.keep k hk
def dc (c:Nat) (z:List S):List S:=(List.replicate c z).flatten
def fF (l:List UInt8):List S:=l.map fun b => .int .u8 b.toNat
def U3 (P:Program) (t:TypeId):Bool:=match P.underlying t with
 | some (.struct fs)=>match fs[0]?,fs[1]? with
   | some f,some g=>match P.underlying f.type,P.underlying g.type with
     | some (.pointer u),some (.slice _)=>Nat.beq u t
     | _,_=>false
   | _,_=>false
 | _=>false
def Ih (P:Program) (t n m:Nat):T:=match U3 P t with
 | true=>Z (.EH t n m)
 | false=>Z (.ptr n 0)
def xe (P:Program) (op:Op) (ev:Operand->T):Option (dO×(Nat->T)) :=
 match op with
 | .alloc t=>match zeroOf P t with
   | some z=>some (.cells true z.cells,fun n=>Ih P t n z.cells.length)
   | none=>none
 | .box _ x=>match ev x with
   | .v y=>some (.cells true y.cells,fun n=>Z (.ptr n 0))
   | _=>none
 | .buildSlice t len parts=>match P.underlying t with
   | some (.slice e)=>match cN P e,zeroOf P e with
     | some n,some z=>if z.cells.length=n/\len*n<=2 ^ 24 then
      match aE (dc len z.cells) (me n ev parts.toList) with
      | some l=>some (.cells true l,fun k=>Z (.sl k 0 len (.known len)))
      | none=>none
      else none
     | _,_=>none
   | _=>none
 | .makeMap t r=>match P.underlying t,r with
   | some (.map _ _),none=>some (.map [],fun n=>Z (.map n))
   | some (.map _ _),some x=>match ev x with
     | .v (.s (.int _ _))=>some (.map [],fun n=>Z (.map n))
     | _=>none
   | _,_=>none
 | .makeSlice t l c=>match P.underlying t with
   | some (.slice e)=>match cN P e,zeroOf P e,wo P e with
     | some n,some z,some by_=>match ev l,ev c with
       | .v (.s (.int _ l)),.v (.s (.int _ c))=>if z.cells.length=n/\0<=l/\l<=c/\c<=2 ^ 62/\by_*c<=2 ^ 48 then
        some (.cells true (dc c.toNat z.cells),fun k=>Z (.sl k 0 l.toNat (.known c.toNat)))
        else none
       | _,_=>none
     | _,_,_=>none
   | _=>none
 | .convert s d x=>match P.underlying s,P.underlying d with
   | some .string,some (.slice e)=>match P.underlying e with
     | some (.int .u8)=>match ev x with
       | .v (.s (.str l))=>some (.cells false (fF l),fun k=>Z (.sl k 0 l.length (.grown 1)))
       | _=>none
     | _=>none
   | _,_=>none
 | _=>none
theorem Ip {P:Program} {op:Op} {ev:Operand->T} {n:Nat} {vs:List S} {f:Nat->T} (h:xe P op ev=some (.dN n vs,f)):False:=by
 unfold xe at h
 repeat' split at h
 all_goals simp at h
section
variable {P:Program} {ι:bP} {w:World} {g:Mem}
theorem jG {z:List S} {cs:List Value} (h:bf (bb ι) z cs) (c n:Nat) (hn:z.length=n) :
 ∃ ds:List Value,(Array.range (c*n)).map (cs.toArray[· % cs.toArray.size]!)=ds.toArray/\bf (bb ι) (dc c z) ds:=by
 have hl:=aL h
 refine ⟨(List.range (c*n)).map (fun i=>cs.toArray[i%cs.toArray.size]!),?_,?_⟩
 · rw [← List.map_toArray]
   congr 1
   rw [← Array.toArray_toList (xs:=Array.range (c*n)),Array.toList_range]
 · subst hn
   induction c with
   | zero=>simp [dc];exact .nil
   | succ c ih =>
     have e1:dc (c+1) z=dc c z++z:=by
      simp [dc,List.replicate_succ']
     have e2:(c+1)*z.length=c*z.length+z.length:=by rw [Nat.add_mul];omega
     rw [e1,e2,List.range_add,List.map_append]
     refine cD ih ?_
     rw [List.map_map]
     refine kR (by simp) ?_
     intro j x y hx hy
     have hj:j<z.length:=(List.getElem?_eq_some_iff.1 hx).1
     obtain ⟨v,hv,r⟩:=bZ h j x hx
     have:y=v:=by
      rw [List.getElem?_map,List.getElem?_range hj] at hy
      simp only [Option.map_some,Option.some.injEq,Function.comp] at hy
      rw [← hy]
      have hm:(c*z.length+j)%cs.toArray.size=j:=by
       simp only [List.size_toArray,← hl]
       rw [Nat.mul_comm,Nat.mul_add_mod,Nat.mod_eq_of_lt hj]
      rw [hm]
      have hj':j<cs.length:=by omega
      rw [List.getElem!_toArray]
      rw [List.getElem!_eq_getElem?_getD,hv];rfl
     rw [this];exact r
theorem iG {e:TypeId} {vs:List S} {cs:List Value} (hv:bf (bb ι) vs cs) (more:Array Value) (hm:∀ v∈more.toList,cB v=true) (u:World) (hu:u={ w with heap:=w.heap.push (.cells (cs.toArray++more) e (0,0)) }) :
 ji ι w u ⟨w.heap.size,0,cs.length+more.size,e⟩ (.cells true vs):=by
 subst hu
 have hlen:=aL hv
 refine ⟨rfl,rfl,rfl,by simp,fun k hk=>zo w _ k hk,?_⟩
 refine ⟨cs.toArray++more,e,(0,0),mg w _,by simp,by simp;omega,?_,fun _=>⟨⟨rfl,rfl,rfl⟩,ua hv hm⟩⟩
 intro j x hx
 obtain ⟨v,uq,r⟩:=bZ hv j x hx
 refine ⟨v,?_,r⟩
 have hj:j<cs.length:=(List.getElem?_eq_some_iff.1 uq).1
 simp only [Nat.zero_add]
 rw [Array.getElem?_append_left (by simpa using hj)]
 simpa using uq
theorem om (e:TypeId) (s:ByteArray) (w:World):∃ cap,s.size<=cap ∧
 (Conv.stringToBytes e s).run P w = .ok (.slice (some ⟨w.heap.size,0,none⟩) s.size cap)
  { w with drawn:=w.drawn+1,heap:=w.heap.push (.cells (s.data.map (fun b=>Value.int .u8 b.toNat)++Array.replicate (cap-s.size) (.int .u8 0)) e
    ((s.data.map (fun b=>Value.int .u8 b.toNat)++Array.replicate (cap-s.size) (Value.int .u8 0)).size,(s.data.map (fun b=>Value.int .u8 b.toNat)++Array.replicate (cap-s.size) (Value.int .u8 0)).size+1)) }:=by
 refine ⟨s.size+(w.tape w.drawn (.appendCap s.size 0 e))%(2 ^ 63-s.size),by omega,?_⟩
 generalize hcap:s.size+(w.tape w.drawn (.appendCap s.size 0 e))%(2 ^ 63-s.size)=cap
 have hch:(choose (.appendCap s.size 0 e)).run P w = .ok cap { w with drawn:=w.drawn+1 }:=by
  simp only [choose,Sem.run,Question.forced,Bool.false_eq_true,if_false,Question.cut,hcap]
 simp only [Conv.stringToBytes,run_bind,hch,newRow,newObj,Sem.run,run_pure,markStringish,shape,World.shape?,mg,freeze,World.freeze]
 simp only [Nat.one_ne_zero,if_false]
 congr 2
 apply Array.ext_getElem?
 intro k
 rw [Array.getElem?_modify]
 by_cases hk:w.heap.size=k
 · subst hk
   simp
 · rw [if_neg hk,Array.getElem?_push,Array.getElem?_push,if_neg (Ne.symm hk),if_neg (Ne.symm hk)]
theorem MX {o:Oper} {ev:Operand->T} {ρ:Operand->Value} {b:dO} {f:Nat->T} (cM:∀ x∈o.op.operands,aJ ι (ev x) (ρ x)) (h:xe P o.op ev=some (b,f)) (w:World) :
 ∃ L v u,(execOp ρ o).run P w = .ok (.value v) u/\ji ι w u L b/\∀ n,aJ (qL ι n L) (f n) v:=by
 obtain ⟨dst,op,ty,pos,after,guard⟩:=o
 simp only at cM h
 have fin:∀ (s:Sem Value),execOp ρ ⟨dst,op,ty,pos,after,guard⟩=(do pure (Next.value (← s)))->(∃ L v u,s.run P w = .ok v u/\ji ι w u L b/\∀ n,aJ (qL ι n L) (f n) v) →
  ∃ L v u,(execOp ρ ⟨dst,op,ty,pos,after,guard⟩).run P w = .ok (.value v) u/\ji ι w u L b/\∀ n,aJ (qL ι n L) (f n) v:=by
  intro s he ⟨L,v,u,h1,h2⟩
  refine ⟨L,v,u,?_,h2⟩
  rw [he]
  simp only [run_bind,h1,run_pure]
 have Sr:∀ (L:Loc) (n:Nat),L.base=0->aJ (qL ι n L) (Z (.ptr n 0)) (.pointer (some ⟨L.b,0,none⟩)):=by
  intro L n h0
  exact ⟨L,bq _ _ _,by rw [h0]⟩
 cases op with
 | alloc t =>
   simp only [xe] at h
   split at h
   · rename_i z hz
     cases h
     obtain ⟨zv,xS,dX⟩:=fD (P:=P) (w:=w) (ι:=ι) hz
     have hc:=bM.cells dX
     refine fin _ rfl ⟨⟨w.heap.size,0,zv.cells.toList.length+(#[]:Array Value).size,t⟩,.pointer (some ⟨w.heap.size,0,none⟩),_,?_,iG (e:=t) hc #[] (fun _ h=>by cases h) _ rfl,fun n => ?_⟩
     rotate_left
     · unfold Ih
       split
       · refine ⟨_,bq _ _ _,rfl,rfl,?_,rfl⟩
         have:=aL hc
         simp [this]
       · exact Sr _ n rfl
     simp [Instr.alloc,run_bind,xS,newVar,newRow,newObj,Sem.run,run_pure]
   · cases h
 | box t x =>
   have hx:=cM x (by simp [Op.operands])
   simp only [xe] at h
   split at h
   · rename_i y hy
     cases h
     rw [hy] at hx
     have hc:=bM.cells hx
     refine fin _ rfl ⟨_,_,_,?_,iG (e:=t) hc #[] (fun _ h=>by cases h) _ rfl,fun n=>Sr _ n rfl⟩
     simp [Instr.box,run_bind,newVar,newRow,newObj,Sem.run,run_pure]
   · cases h
 | buildSlice t len parts =>
   simp only [xe] at h
   split at h
   · rename_i e hu
     split at h
     · rename_i n z hn hz
       split at h
       · rename_i hc
         split at h
         · rename_i l hl
           cases h
           obtain ⟨zv,xS,dX⟩:=fD (P:=P) (w:=w) (ι:=ι) hz
           have zW:=bM.cells dX
           have hzl:=aL zW
           obtain ⟨zs,DV,SR⟩:=jG zW len n hc.1
           have hall:∀ (pp:List (Nat×Operand)),(∀ p∈pp,aJ ι (ev p.2) (ρ p.2)) →
            bf (fun (a:Nat×Nat×T) (b:Nat×Value)=>(some (b.1*n,n):Option (Nat×Nat))=some (a.1,a.2.1)/\aJ ι a.2.2 b.2) (me n ev pp) (pp.map fun p=>(p.1,ρ p.2)):=by
            intro pp
            induction pp with
            | nil=>intro _;exact .nil
            | cons p pp ih =>
              intro cM
              exact .cons ⟨rfl,cM p (by simp)⟩ (ih fun q hq=>cM q (by simp [hq]))
           obtain ⟨ds,AY,DQ⟩:=oL (ι:=ι) (place:=fun i=>some (i*n,n)) (parts.toList.map fun p=>(p.1,ρ p.2)) _ (dc len z.cells) zs l
            (hall parts.toList (fun p hp=>cM p.2 (by
             simp only [Op.operands,List.mem_toArray,List.mem_map]
             exact ⟨p,hp,rfl⟩))) SR hl
           have e2:(parts.map fun p=>(p.1,ρ p.2)).toList=parts.toList.map fun p=>(p.1,ρ p.2):=by simp
           refine fin _ rfl ⟨_,.slice (some ⟨w.heap.size,0,none⟩) len len,_,?_,iG (e:=e) DQ #[] (fun _ h=>by cases h) _ rfl,fun k=>⟨_,bq _ _ _,rfl,Nat.le_refl _⟩⟩
           have ur:(zs.toArray:Array Value)=(Array.range (len*n)).map ((if len*n=0 then #[] else zv.cells)[· % (if len*n=0 then #[] else zv.cells).size]!):=by
            by_cases h0:len*n=0
            · rw [h0] at DV ⊢
              rw [← DV]
              simp
            · rw [if_neg h0,← DV]
           by_cases h0:len*n=0
           · rw [if_pos h0] at ur
             simp only [Instr.buildSlice,run_bind,aN hu,cQ hn]
             rw [if_neg (by omega)]
             simp only [run_bind,run_pure,if_pos h0,← ur,e2,AY,newRow,newObj,Sem.run,Array.append_empty]
           · rw [if_neg h0] at ur
             simp only [Instr.buildSlice,run_bind,aN hu,cQ hn]
             rw [if_neg (by omega)]
             simp only [run_bind,run_pure,if_neg h0,xS,← ur,e2,AY,newRow,newObj,Sem.run,Array.append_empty]
         · cases h
       · cases h
     · cases h
   · cases h
 | makeMap t r =>
   have hb:ji ι w { w with heap:=w.heap.push (.map #[] 0) } ⟨w.heap.size,0,0,0⟩ (.map []) :=
    ⟨rfl,rfl,rfl,by simp,fun k hk=>zo w _ k hk,#[],0,mg w _,.nil,.nil,by simp⟩
   simp only [xe] at h
   split at h
   · rename_i kt et hu
     cases h
     refine fin _ rfl ⟨_,_,_,?_,hb,fun n=>⟨_,bq _ _ _,rfl⟩⟩
     simp [Instr.makeMap,run_bind,newObj,Sem.run,run_pure]
   · rename_i kt et x hu
     split at h
     · rename_i k n hx'
       cases h
       have hx:=cM x (by simp [Op.operands])
       rw [hx'] at hx
       simp only [aJ,bM,bb] at hx
       refine fin _ rfl ⟨_,_,_,?_,hb,fun n=>⟨_,bq _ _ _,rfl⟩⟩
       simp [Instr.makeMap,run_bind,aN hu,hx,asInt,asIntOf,newObj,Sem.run,run_pure]
     · cases h
   · cases h
 | makeSlice t l c =>
   have hl:=cM l (by simp [Op.operands])
   have Vu:=cM c (by simp [Op.operands])
   simp only [xe] at h
   split at h
   · rename_i e hu
     split at h
     · rename_i n z by_ hn hz hby
       split at h
       · rename_i kl lv kc cv qX gY
         split at h
         · rename_i hc
           cases h
           rw [qX] at hl;rw [gY] at Vu
           simp only [aJ,bM,bb] at hl Vu
           obtain ⟨zv,xS,dX⟩:=fD (P:=P) (w:=w) (ι:=ι) hz
           have zW:=bM.cells dX
           obtain ⟨zs,DV,SR⟩:=jG zW cv.toNat n hc.1
           obtain ⟨i,hi,hib⟩:=tH (P:=P) (w:=w) hby
           obtain ⟨_,c1,c2,c3,c4⟩:=hc
           have wl:IntKind.i64.wrap lv=lv:=IntWalk.i64_in lv (by omega)
           have wc:IntKind.i64.wrap cv=cv:=IntWalk.i64_in cv (by omega)
           refine fin _ rfl ⟨_,.slice (some ⟨w.heap.size,0,none⟩) lv.toNat cv.toNat,_,?_,iG (e:=e) SR #[] (fun _ h=>by cases h) _ rfl,fun k=>⟨_,bq _ _ _,rfl,by omega⟩⟩
           have ur:(zs.toArray:Array Value)=(Array.range (cv.toNat*n)).map ((if cv.toNat*n=0 then #[] else zv.cells)[· % (if cv.toNat*n=0 then #[] else zv.cells).size]!):=by
            by_cases h0:cv.toNat*n=0
            · rw [h0] at DV ⊢
              rw [← DV]
              simp
            · rw [if_neg h0,← DV]
           have hroom:∀ (k:Nat) (w:World),(askRoom k).run P w = .ok () w:=by
            intro k w
            unfold askRoom
            split
            · rfl
            · rfl
           have sL:((decide (cv<0)||decide ((by_:Int)*cv>2 ^ 48))||decide (lv<0)||decide (lv>cv))=false:=by
            simp only [Bool.or_eq_false_iff,decide_eq_false_iff_not]
            refine ⟨⟨⟨by omega,?_⟩,by omega⟩,by omega⟩
            have:((by_:Int)*cv)<=2 ^ 48:=c4
            omega
           simp only [Instr.makeSlice,run_bind,aN hu,hl,Vu,asInt,asIntOf,run_pure,hi,hib,wl,wc]
           simp only [sL,Bool.false_eq_true,if_false,run_bind,hroom,cQ hn]
           by_cases h0:cv.toNat*n=0
           · rw [if_pos h0] at ur
             simp only [if_pos h0,run_pure,← ur,newRow,newObj,run_bind,Sem.run,Array.append_empty]
           · rw [if_neg h0] at ur
             simp only [if_neg h0,run_bind,xS,run_pure,← ur,newRow,newObj,Sem.run,Array.append_empty]
         · cases h
       · cases h
     · cases h
   · cases h
 | convert s d x =>
   have hx:=cM x (by simp [Op.operands])
   simp only [xe] at h
   split at h
   · rename_i e hs hd
     split at h
     · rename_i he
       split at h
       · rename_i l hl
         cases h
         rw [hl] at hx
         obtain ⟨s',hx',rfl⟩:=hx
         have jC:(Go.convert s d (ρ x)).run P w=(Conv.stringToBytes e s').run P w:=by
          rw [hx']
          simp only [Go.convert,run_bind,aN hs,aN hd,aN he]
         obtain ⟨cap,hcap,hrun⟩:=om (P:=P) e s' w
         refine fin _ rfl ⟨⟨w.heap.size,0,cap,0⟩,_,_,jC.trans hrun,?_,fun k => ?_⟩
         · refine ⟨rfl,rfl,rfl,by simp,?_,?_⟩
           · intro k hk
             simp only []
             rw [Array.getElem?_push,if_neg (by omega)]
           · refine ⟨_,e,_,mg w _,?_,?_,?_,?_⟩
             · have hz:s'.data.size=s'.size:=rfl
               simp only [Array.size_append,Array.size_map,Array.size_replicate,hz];omega
             · simp only [fF,List.length_map,Nat.zero_add,← size_data];exact hcap
             · intro j y hy
               have hj:j<s'.data.toList.length:=by
                have:=(List.getElem?_eq_some_iff.1 hy).1
                simpa [fF] using this
               rw [fF,List.getElem?_map,List.getElem?_eq_getElem hj] at hy
               cases hy
               refine ⟨.int .u8 (s'.data.toList[j]).toNat,?_,rfl⟩
               have hj':j<s'.data.size:=by simpa using hj
               simp only [Nat.zero_add]
               rw [Array.getElem?_append_left (by simpa using hj')]
               rw [Array.getElem?_map,Array.getElem?_eq_getElem hj']
               rfl
             · intro h;cases h
         · refine ⟨_,cap,bq _ _ _,?_,?_,?_⟩
           · rw [← size_data]
           · rw [← size_data];exact hcap
           · simp
       · cases h
     · cases h
   · cases h
 | _=>simp [xe] at h
end
def tt:T := .eD []
def aw (n:Nat) (a x:T) (σ:St):Option (T×St) :=
 match a,x with
 | .v (.s (.ptr i o)),.v y=>match σ.get i with
   | some (.cells true vs)=>if y.cells.length=n/\o+n<=vs.length then some (tt,σ.set i (.cells true (aO vs o y.cells))) else none
   | _=>none
 | _,_=>none
def gV (m k x:T) (σ:St):Option (T×St) :=
 match m,k,x with
 | .v (.s (.map i)),.v (.s k),.v y=>match σ.get i with
   | some (.map es)=>match eX k es 0 with
     | some (some (j,_))=>some (tt,σ.set i (.map (es.set j (k,y))))
     | some none=>some (tt,σ.set i (.map (es++[(k,y)])))
     | none=>none
   | _=>none
 | _,_,_=>none
def jK (m k:T) (σ:St):Option (T×St) :=
 match m,k with
 | .v (.s .mz),.v (.s _)=>some (tt,σ)
 | .v (.s (.map i)),.v (.s k)=>match σ.get i with
   | some (.map es)=>match eX k es 0 with
     | some (some (j,_))=>some (tt,σ.set i (.map (es.eraseIdx j)))
     | some none=>some (tt,σ)
     | none=>none
   | _=>none
 | _,_=>none
def eT (e:Nat) (x:T) (g:Mem):Option (Nat×List S) :=
 match x with
 | .v (.s .az)=>some (0,[])
 | .v (.s (.emp _ _))=>some (0,[])
 | .v (.s (.sl i o n _))=>if n=0 then some (0,[]) else match g i with
   | some (.cells _ vs)=>if o+n*e<=vs.length then some (n,(vs.drop o).take (n*e)) else none
   | _=>none
 | .v (.s (.str l))=>if e=1 then some (l.length,fF l) else none
 | _=>none
def aH (e by_:Nat) (s x:T) (σ:St):Option (T×St) :=
 match eT e x σ.get with
 | none=>none
 | some (n,xs)=>if e=0 then none else match s with
   | .v (.s .az)=>if n=0 then some (Z .az,σ) else if n*by_<=140737488355328 then
    some (Z (.sl σ.size 0 n (.grown e)),σ.push (.cells true xs)) else none
   | .v (.s (.sl i o len (.known c)))=>if (len+n)*by_<=140737488355328 then match σ.get i with
    | some (.cells own vs) =>
      if len+n<=c then (if own=true/\o+len*e+n*e<=vs.length then some (Z (.sl i o (len+n) (.known c)),σ.set i (.cells true (aO vs (o+len*e) xs))) else if n=0 then some (s,σ) else none)
      else if o+len*e<=vs.length then some (Z (.sl σ.size 0 (len+n) (.grown e)),σ.push (.cells true ((vs.drop o).take (len*e)++xs))) else none
    | _=>none
    else none
   | .v (.s (.sl i o len (.grown q)))=>if q=e/\(len+n)*by_<=140737488355328 then
    if n=0 then some (s,σ) else match σ.get i with
    | some (.cells true vs) =>
      if o+(len+n)*e<=vs.length then some (Z (.sl i o (len+n) (.grown e)),σ.set i (.cells true (aO vs (o+len*e) xs)))
      else if o+len*e<=vs.length then some (Z (.sl σ.size 0 (len+n) (.grown e)),(σ.set i .dead).push (.cells true ((vs.drop o).take (len*e)++xs))) else none
    | _=>none
    else none
   | .v (.s (.emp i q))=>if q=e/\n*by_<=140737488355328 then
    if n=0 then some (s,σ) else match σ.get i with
    | some (.cells true _)=>some (Z (.sl σ.size 0 n (.grown e)),(σ.set i .dead).push (.cells true xs))
    | _=>none
    else none
   | _=>none
def kQ (e by_:Nat) (z:List S) (s x:T) (σ:St):Option (T×St) :=
 match s,x with
 | .v (.s .az),.v (.s (.int .i64 n))=>if 0<n/\n.toNat*by_<=140737488355328/\e≠0 then some (Z (.sl σ.size 0 n.toNat (.grown e)),σ.push (.cells true (dc n.toNat z))) else none
 | .v (.s (.sl i o k (.known c))),.v (.s (.int .i64 n))=>match σ.get i with
   | some (.cells true vs)=>if 0<n/\k<=c/\c<k+n.toNat/\(k+n.toNat)*by_<=140737488355328/\e≠0/\o+k*e<=vs.length then
    some (Z (.sl σ.size 0 (k+n.toNat) (.grown e)),σ.push (.cells true ((vs.drop o).take (k*e)++dc n.toNat z))) else none
   | _=>none
 | _,_=>none
def rU (P:Program) (t:TypeId):Bool:=match P.underlying t with
 | some (.int _)=>true
 | _=>false
def fM (e:Nat) (d x:T) (σ:St):Option (T×St) :=
 match eT e x σ.get with
 | none=>none
 | some (n,xs)=>match d with
   | .v (.s .az)=>some (I .i64 0,σ)
   | .v (.s (.emp _ _))=>some (I .i64 0,σ)
   | .v (.s (.sl i o len _))=>match σ.get i with
     | some (.cells true vs)=>if o+Nat.min n len*e<=vs.length then some (I .i64 (Nat.min n len),σ.set i (.cells true (aO vs o (xs.take (Nat.min n len*e))))) else none
     | _=>none
   | _=>none
def kP (e:Nat) (z:List S) (x:T) (σ:St):Option (T×St) :=
 match x with
 | .v (.s .az)=>some (tt,σ)
 | .v (.s (.emp _ _))=>some (tt,σ)
 | .v (.s (.sl i o n _))=>if n=0 then some (tt,σ) else match σ.get i with
   | some (.cells true vs)=>if o+n*e<=vs.length then some (tt,σ.set i (.cells true (aO vs o (dc n z)))) else none
   | _=>none
 | _=>none
def we (P:Program) (t:TypeId):Bool:=match P.underlying t with
 | some (.slice _)=>true
 | some .string=>true
 | _=>false
def ya (x:T) (σ:St):Option (T×St) :=
 match x with
 | .v (.s (.sl i _ _ _))=>match σ.get i with
   | some (.cells true vs)=>some (x,σ.set i (.cells false vs))
   | _=>none
 | _=>none
def Ab (P:Program) (op:Op) (ev:Operand->T) (σ:St):Option (T×St) :=
 match op with
 | .store t a x=>match cN P t with
   | some n=>aw n (ev a) (ev x) σ
   | none=>none
 | .mapUpdate t m k x=>match P.underlying t with
   | some (.map kt _)=>match wV P kt with
     | some kk=>if isKey kk (ev k) then gV (ev m) (ev k) (ev x) σ else none
     | none=>none
   | _=>none
 | .convert s d x=>match P.underlying s,P.underlying d with
   | some (.slice _),some (.slice e)=>match s == d,P.underlying e with
     | true,some (.int .u8)=>ya (ev x) σ
     | _,_=>none
   | _,_=>none
 | .insert t m k x=>match P.underlying t with
   | some (.map kt _)=>match wV P kt with
     | some kk=>if isKey kk (ev k) then gV (ev m) (ev k) (ev x) σ else none
     | none=>none
   | _=>none
 | .call { callee := .builtin .delete,args,argTypes }=>match args.toList,argTypes.toList with
   | [m,k],[t,_]=>match P.underlying t with
     | some (.map kt _)=>match wV P kt with
       | some kk=>if isKey kk (ev k) then jK (ev m) (ev k) σ else none
       | none=>none
     | _=>none
   | _,_=>none
 | .call { callee := .builtin .append,args,argTypes }=>match args.toList,argTypes.toList with
   | [s,x],[t,u]=>match P.underlying t with
     | some (.slice e)=>match cN P e,wo P e,zeroOf P e with
       | some n,some b,some z=>if we P u/\b≠0/\z.cells.length=n then aH n b (ev s) (ev x) σ else if rU P u/\b≠0/\z.cells.length=n then kQ n b z.cells (ev s) (ev x) σ else none
       | _,_,_=>none
     | _=>none
   | _,_=>none
 | .call { callee := .builtin .copy,args,argTypes }=>match args.toList,argTypes.toList with
   | [d,x],[t,_]=>match P.underlying t with
     | some (.slice e)=>match cN P e with
       | some n=>fM n (ev d) (ev x) σ
       | none=>none
     | _=>none
   | _,_=>none
 | .call { callee := .builtin .clear,args,argTypes }=>match args.toList,argTypes.toList with
   | [x],[t]=>match P.underlying t with
     | some (.slice e)=>match cN P e,zeroOf P e with
       | some n,some z=>if z.cells.length=n then kP n z.cells (ev x) σ else none
       | _,_=>none
     | _=>none
   | _,_=>none
 | _=>none
def Rv (P:Program) (ι:bP) (σ:St) (w:World) (ρ:Operand->Value) (o:Oper) (t:T) (τ:St):Prop :=
 ∃ κ u nx v,(execOp ρ o).run P w = .ok nx u/\(nx = .value v\/nx = .skip/\v=undef)/\Ext ι σ w κ τ u/\Rel κ τ.get u/\aJ κ t v/\τ.wf
section
variable {P:Program} {ι:bP} {w:World} {σ:St}
theorem gF {κ:bP}:aJ κ tt undef:=⟨[],rfl,.nil⟩
theorem Ak {t:TypeId} {n:Nat} {a x:T} {u v:Value} {r:T} {τ:St} (hn:cN P t=some n) (hR:Rel ι σ.get w) (wf:σ.wf) (ha:aJ ι a u) (hx:aJ ι x v) (h:aw n a x σ=some (r,τ)) :
 ∃ w',(Instr.storeAt t u v).run P w = .ok () w'/\Ext ι σ w ι τ w'/\Rel ι τ.get w'/\r=tt/\τ.wf:=by
 unfold aw at h
 split at h
 · rename_i i o y
   obtain ⟨L,hL,rfl⟩:=ha
   split at h
   · rename_i vs hb
     split at h
     · rename_i hc
       cases h
       have hcells:=bM.cells hx
       have hlen:=aL hcells
       obtain ⟨κ,w',a,hrun,he,hr,rfl⟩:=dG (P:=P) hR wf hL hb (o:=o) (by omega) hcells
       refine ⟨w',?_,he,hr,rfl,St.wf_set wf (wf.lt hb) _⟩
       simp only [Instr.storeAt,Instr.sureAddr,run_bind,run_pure,storeVar,cQ hn]
       have hsz:v.cells.size=n:=by simp only [Array.length_toList] at hlen;omega
       rw [if_neg (by simp [hsz])]
       exact hrun
     · cases h
   · cases h
 · cases h
theorem mZ {κ:bP} {i:Nat} {L:Loc} {es es':List (S×V)} {mes':Array MapEntry} {clk':Nat} (hR:Rel ι σ.get w) (wf:σ.wf) (hL:ι i=some L) (hb:σ.get i=some (.map es))
 (Ux:κ=ι) (h1:bf (fk ι) es' mes'.toList) (h2:mes'.toList.Pairwise fun x y=>x.born<y.born) (h3:∀ e∈mes'.toList,e.born<clk') :
 ∃ w',(setObj L.b (.map mes' clk')).run P w = .ok () w'/\Ext ι σ w κ (σ.set i (.map es')) w'/\Rel κ (σ.set i (.map es')).get w':=by
 subst Ux
 obtain ⟨fe,oP,hh,_⟩:=hR.blk i L _ hL hb
 have hlt:=(Array.getElem?_eq_some_iff.1 hh).1
 obtain ⟨he,hr⟩:=xu hR wf hL hb trivial (.map mes' clk') (.map es') trivial ⟨mes',clk',by simp [hlt],h1,h2,h3⟩
 exact ⟨_,by simp [setObj,Sem.run,hh],he,hr⟩
theorem P5 {a b:S} (h:iX a b=some true):a=b:=by
 cases a<;>cases b<;>simp only [iX] at h<;>first | (cases h;done) | skip
 · simp at h;subst h;rfl
 · rename_i k a k' b
   by_cases e:k=k'
   · subst e;simp at h;subst h;rfl
   · rw [if_neg e] at h;cases h
 · simp at h;subst h;rfl
theorem xw {a b:S} {u v:Value} (ha:bb ι a u) (hb:bb ι b v) (h:iX a b=some true) (n:Nat):Instr.sameBits n v u=true:=by
 have e:=P5 h
 subst e
 cases a<;>simp only [iX] at h<;>first | (cases h;done) | skip
 · simp only [bb] at ha hb;subst ha hb;cases n<;>simp [Instr.sameBits]
 · simp only [bb] at ha hb;subst ha hb;cases n<;>simp [Instr.sameBits]
 · obtain ⟨s,rfl,hs⟩:=ha
   obtain ⟨s',rfl,NQ⟩:=hb
   have:s=s':=by
    cases s;cases s'
    simp only at hs NQ
    congr
    apply Array.ext'
    rw [hs,NQ]
   subst this
   cases n<;>(simp only [Instr.sameBits];rw [beq_toListBytes];simp)
theorem nX {l:List MapEntry} {f:MapEntry->MapEntry} (hf:∀ e,(f e).born=e.born) (j:Nat) (h:l.Pairwise fun x y=>x.born<y.born):(l.modify j f).Pairwise fun x y=>x.born<y.born:=by
 induction l generalizing j with
 | nil=>simp
 | cons a l ih =>
   rw [List.pairwise_cons] at h
   cases j with
   | zero =>
     rw [List.modify_zero_cons]
     rw [List.pairwise_cons]
     exact ⟨fun b hb=>by rw [hf];exact h.1 b hb,h.2⟩
   | succ j =>
     rw [List.modify_succ_cons]
     rw [List.pairwise_cons]
     refine ⟨fun b hb => ?_,ih j h.2⟩
     have:∃ c∈l,c.born=b.born:=by
      clear ih h
      induction l generalizing j with
      | nil=>simp at hb
      | cons c l ih2 =>
        cases j with
        | zero =>
          rw [List.modify_zero_cons] at hb
          cases hb with
          | head=>exact ⟨c,by simp,(hf c).symm⟩
          | tail _ hb=>exact ⟨b,List.mem_cons_of_mem _ hb,rfl⟩
        | succ j =>
          rw [List.modify_succ_cons] at hb
          cases hb with
          | head=>exact ⟨b,by simp,rfl⟩
          | tail _ hb =>
            obtain ⟨c',h1,h2⟩:=ih2 j hb
            exact ⟨c',by simp [h1],h2⟩
     obtain ⟨c,hc,e⟩:=this
     rw [← e];exact h.1 c hc
theorem qI {l:List MapEntry} {f:MapEntry->MapEntry} (hf:∀ e,(f e).born=e.born) {j oP:Nat} (h:∀ e∈l,e.born<oP):∀ e∈l.modify j f,e.born<oP:=by
 induction l generalizing j with
 | nil=>intro e he;simp at he
 | cons a l ih =>
   intro e he
   cases j with
   | zero =>
     rw [List.modify_zero_cons] at he
     cases he with
     | head=>rw [hf];exact h a (by simp)
     | tail _ he=>exact h e (List.mem_cons_of_mem _ he)
   | succ j =>
     rw [List.modify_succ_cons] at he
     cases he with
     | head=>exact h a (by simp)
     | tail _ he=>exact ih (fun e he=>h e (by simp [he])) e he
theorem yc {es:List (S×V)} {fe:List MapEntry} {f:MapEntry->MapEntry} {p:S×V}:∀ {j:Nat},bf (fk ι) es fe->(∀ e,fe[j]? = some e->fk ι p (f e)) →
 bf (fk ι) (es.set j p) (fe.modify j f):=by
 intro j h
 induction h generalizing j with
 | nil=>intro _;simpa using bf.nil
 | @cons a b l m hr h ih =>
   intro hp
   cases j with
   | zero=>rw [List.set_cons_zero,List.modify_zero_cons];exact .cons (hp b rfl) h
   | succ j=>rw [List.set_cons_succ,List.modify_succ_cons];exact .cons hr (ih fun e he=>hp e (by simpa using he))
theorem Ao {α β:Type} {R:α->β->Prop} {l:List α} {m:List β} (h:bf R l m):∀ j,bf R (l.eraseIdx j) (m.eraseIdx j):=by
 induction h with
 | nil=>intro j;simpa using bf.nil
 | cons a h ih=>intro j;cases j with
   | zero=>simpa using h
   | succ j=>simpa using bf.cons a (ih j)
theorem pQ {t kt et:TypeId} {kk:KK} {m k x:T} {um uk ux:Value} {r:T} {τ:St} (hu:P.underlying t=some (.map kt et)) (hkk:wV P kt=some kk) (hik:isKey kk k=true) (hR:Rel ι σ.get w) (wf:σ.wf)
 (hm:aJ ι m um) (hk:aJ ι k uk) (hx:aJ ι x ux) (h:gV m k x σ=some (r,τ)) :
 ∃ w',(Instr.mapUpdate t um uk ux).run P w = .ok () w'/\Ext ι σ w ι τ w'/\Rel ι τ.get w'/\r=tt/\τ.wf:=by
 unfold gV at h
 split at h
 · rename_i i kv y
   obtain ⟨L,hL,rfl⟩:=hm
   split at h
   · rename_i es hb
     obtain ⟨fe,oP,hh,hall,Ur,hlt⟩:=hR.blk i L _ hL hb
     obtain ⟨d,hd,_,wO⟩:=lW (P:=P) (w:=w) hkk hik hk false 9999
     have ko:(Instr.checkKey false 10000 kt uk).run P w = .ok () w:=wO
     have cg:(getObj L.b).run P w = .ok (.map fe oP) w:=by simp [getObj,Sem.run,hh]
     split at h
     · rename_i j v hf
       cases h
       obtain ⟨v',h1,h2,q,e,h3,h4,h5,h6⟩:=eY (P:=P) (w:=w) hkk hik hk hall hf
       have hqe:fk ι (q,v) e:=by
        obtain ⟨e',he',r⟩:=bZ hall j _ h3
        rw [h4] at he';cases he';exact r
       have SD:(Instr.keyThatStays (((fe[j]?).map (·.key)).getD uk) uk).run P w = .ok uk w:=by
        have e1:fe[j]? = some e:=by rw [← Array.getElem?_toList];exact h4
        simp only [Instr.keyThatStays,e1,Option.map_some,Option.getD_some]
        rw [xw hk hqe.1 h5]
        rfl
       have DT:fk ι (kv,y) { e with key:=uk,val:=ux }:=⟨hk,hx⟩
       obtain ⟨w',hs,hE,oD⟩:=mZ (P:=P) (κ:=ι) (es':=es.set j (kv,y)) (mes':=fe.modify j fun e=>{ e with key:=uk,val:=ux }) (clk':=oP) hR wf hL hb rfl
        (by rw [Array.toList_modify];exact yc hall (fun e' _=>⟨hk,hx⟩))
        (by rw [Array.toList_modify];exact nX (f:=fun e=>{ e with key:=uk,val:=ux }) (fun _=>rfl) j Ur)
        (by rw [Array.toList_modify];exact qI (f:=fun e=>{ e with key:=uk,val:=ux }) (fun _=>rfl) hlt)
       refine ⟨w',?_,hE,oD,rfl,St.wf_set wf (wf.lt hb) _⟩
       simp only [Instr.mapUpdate,run_bind,aN hu,cg,ko,h1,SD,hs]
     · rename_i hf
       cases h
       have h1:=eY (P:=P) (w:=w) hkk hik hk hall hf
       simp only at h1
       obtain ⟨w',hs,hE,oD⟩:=mZ (P:=P) (κ:=ι) (es':=es++[(kv,y)]) (mes':=fe.push { key:=uk,val:=ux,born:=oP }) (clk':=oP+1) hR wf hL hb rfl
        (by rw [Array.toList_push];exact cD hall (.cons ⟨hk,hx⟩ .nil))
        (by
         rw [Array.toList_push,List.pairwise_append]
         refine ⟨Ur,by simp,?_⟩
         intro a ha b hb
         simp only [List.mem_singleton] at hb
         subst hb
         exact hlt a ha)
        (by
         intro e he
         rw [Array.toList_push,List.mem_append] at he
         rcases he with he | he
         · have:=hlt e he;omega
         · simp only [List.mem_singleton] at he;subst he;simp)
       refine ⟨w',?_,hE,oD,rfl,St.wf_set wf (wf.lt hb) _⟩
       simp only [Instr.mapUpdate,run_bind,aN hu,cg,ko,h1,hs]
     · cases h
   · cases h
 · cases h
theorem x9 {t kt et t':TypeId} {ty:TypeId} {kk:KK} {m k:T} {um uk:Value} {r:T} {τ:St} (hu:P.underlying t=some (.map kt et)) (hkk:wV P kt=some kk) (hik:isKey kk k=true) (hR:Rel ι σ.get w) (wf:σ.wf)
 (hm:aJ ι m um) (hk:aJ ι k uk) (h:jK m k σ=some (r,τ)) :
 ∃ w',(Builtin.delete_ #[t,t'] ty #[um,uk]).run P w = .ok undef w'/\Ext ι σ w ι τ w'/\Rel ι τ.get w'/\r=tt/\τ.wf:=by
 unfold jK at h
 split at h
 · rename_i kv
   simp only [aJ,bM,bb] at hm
   subst hm
   cases h
   obtain ⟨d,hd,_,wO⟩:=lW (P:=P) (w:=w) hkk hik hk true 9999
   have ko:(Instr.checkKey true 10000 kt uk).run P w = .ok () w:=wO
   refine ⟨w,?_,Ext.refl _ _ _,hR,rfl,wf⟩
   simp [Builtin.delete_,run_bind,aN hu,ko,run_pure,undef]
 · rename_i i kv
   obtain ⟨L,hL,rfl⟩:=hm
   split at h
   · rename_i es hb
     obtain ⟨fe,oP,hh,hall,Ur,hlt⟩:=hR.blk i L _ hL hb
     obtain ⟨d,hd,_,wO⟩:=lW (P:=P) (w:=w) hkk hik hk fe.isEmpty 9999
     have ko:(Instr.checkKey fe.isEmpty 10000 kt uk).run P w = .ok () w:=wO
     have cg:(getObj L.b).run P w = .ok (.map fe oP) w:=by simp [getObj,Sem.run,hh]
     split at h
     · rename_i j v hf
       cases h
       obtain ⟨v',h1,h2,q,e,h3,h4,h5,h6⟩:=eY (P:=P) (w:=w) hkk hik hk hall hf
       have hj:j<fe.size:=by
        have:=(List.getElem?_eq_some_iff.1 h4).1
        simpa using this
       have A7:(fe.eraseIdxIfInBounds j).toList=fe.toList.eraseIdx j:=by
        unfold Array.eraseIdxIfInBounds
        rw [dif_pos hj]
        simp
       obtain ⟨w',hs,hE,oD⟩:=mZ (P:=P) (κ:=ι) (es':=es.eraseIdx j) (mes':=fe.eraseIdxIfInBounds j) (clk':=oP) hR wf hL hb rfl
        (by rw [A7];exact Ao hall j)
        (by rw [A7];exact Ur.sublist (List.eraseIdx_sublist ..))
        (by rw [A7];intro e he;exact hlt e (List.mem_of_mem_eraseIdx he))
       refine ⟨w',?_,hE,oD,rfl,St.wf_set wf (wf.lt hb) _⟩
       simp [Builtin.delete_,run_bind,aN hu,cg,ko,h1,hs,run_pure,undef]
     · rename_i hf
       cases h
       have h1:=eY (P:=P) (w:=w) hkk hik hk hall hf
       simp only at h1
       have VP:=(Array.getElem?_eq_some_iff.1 hh).1
       have heq:w.heap.setIfInBounds L.b (.map fe oP)=w.heap:=by
        apply Array.ext_getElem?
        intro j
        by_cases h:L.b=j
        · subst h
          rw [hh,Array.getElem?_setIfInBounds_self_of_lt VP]
        · rw [Array.getElem?_setIfInBounds_ne h]
       have hs:(setObj L.b (.map fe oP)).run P w = .ok () w:=by
        simp only [setObj,Sem.run,hh,heq]
       refine ⟨w,?_,Ext.refl _ _ _,hR,rfl,wf⟩
       simp [Builtin.delete_,run_bind,aN hu,cg,ko,h1,hs,run_pure,undef]
     · cases h
   · cases h
 · cases h
end
section
variable {P:Program} {ι:bP} {w:World} {σ:St}
theorem run_askRoom (k:Nat) (w:World):(askRoom k).run P w = .ok () w:=by
 unfold askRoom
 split
 · rfl
 · rfl
theorem rQ {e n:Nat} {x:T} {u:Value} {xs:List S} {g:Mem} (hR:Rel ι g w) (hx:aJ ι x u) (h:eT e x g=some (n,xs)) :
 xs.length=n*e/\(Builtin.lenOf u).run P w = .ok n w ∧
  ∀ k,k<=n->∃ cs:List Value,(Builtin.firstCells e k u).run P w = .ok cs.toArray w/\bf (bb ι) (xs.take (k*e)) cs:=by
 unfold eT at h
 split at h
 · cases h
   simp only [aJ,bM,bb] at hx;subst hx
   exact ⟨by simp,rfl,fun k hk=>⟨[],by simp [Builtin.firstCells,run_pure],by simpa using bf.nil⟩⟩
 · cases h
   obtain ⟨L,o,c,hL,rfl,_⟩:=hx
   refine ⟨by simp,rfl,fun k hk => ?_⟩
   have:k=0:=by omega
   subst this
   exact ⟨[],by simp [Builtin.firstCells,loadCells,loadCellsFrom,run_pure],by simpa using bf.nil⟩
 · rename_i i o len c
   obtain ⟨L,k,hL,rfl,_⟩:=fE hx
   split at h
   · rename_i hz
     subst hz
     cases h
     refine ⟨by simp,rfl,fun k hk => ?_⟩
     have:k=0:=by omega
     subst this
     exact ⟨[],by simp [Builtin.firstCells,loadCells,loadCellsFrom,run_pure],by simpa using bf.nil⟩
   split at h
   · rename_i own vs hb
     split at h
     · rename_i hle
       cases h
       refine ⟨by simp;omega,rfl,fun k hk => ?_⟩
       have Ma:k*e<=n*e:=Nat.mul_le_mul_right e hk
       obtain ⟨ds,hd,rd⟩:=run_loadCells (P:=P) hR hL hb (o:=o) (n:=k*e) rfl (by simp;omega)
       refine ⟨ds,by simpa [Builtin.firstCells] using hd,?_⟩
       rw [List.take_take,Nat.min_eq_left Ma]
       exact rd
     · cases h
   · cases h
 · rename_i l
   split at h
   · rename_i he
     subst he
     cases h
     obtain ⟨s,rfl,rfl⟩:=hx
     refine ⟨by simp [fF],?_,?_⟩
     · rw [← size_data];rfl
     · intro k hk
       refine ⟨(s.data.toList.take k).map fun b => .int .u8 b.toNat,?_,?_⟩
       · simp only [Builtin.firstCells,run_pure]
         congr 1
         rw [ByteArray.data_extract]
         apply Array.toList_inj.1
         simp [List.map_take]
       · rw [Nat.mul_one,fF,← List.map_take]
         exact jw fun b _=>rfl
   · cases h
 · cases h
theorem jr {c:Array Value} (h:∀ v∈c.toList,cB v=true) (k:Nat):∀ v∈(Builtin.zeroCells c k).toList,cB v=true:=by
 intro v hv
 unfold Builtin.zeroCells at hv
 rw [Array.mem_toList_iff,Array.mem_map] at hv
 obtain ⟨i,hi,rfl⟩:=hv
 rw [Array.mem_range] at hi
 have hc:0<c.size:=by
  rcases Nat.eq_zero_or_pos c.size with h0 | h0
  · rw [h0] at hi;omega
  · exact h0
 have hlt:=Nat.mod_lt i hc
 rw [getElem!_pos c (i%c.size) hlt]
 exact h _ (Array.mem_toList_iff.2 (Array.getElem_mem hlt))
theorem ei {t u ty e:TypeId} {n b cnt:Nat} (ht:P.underlying t=some (.slice e)) (hn:cN P e=some n) (hb:wo P e=some b) {z:V} (hz:zeroOf P e=some z) (hu:we P u=true) (hb0:b≠0)
 {a:Option Addr} {len cap:Nat} {x:Value} (hlen:(Builtin.lenOf x).run P w = .ok cnt w) {cs:List Value}
 (hcap:len<=cap) (hsmall:(len+cnt)*b<=140737488355328) :
 (len+cnt<=cap->(Builtin.firstCells n cnt x).run P w = .ok cs.toArray w->(Builtin.append_ #[t,u] ty #[.slice a len cap,x]).run P w =
  match (match a with | some a=>storeCells (a.add (len*n)) cs | none=>pure ()).run P w with
  | .ok () w' => .ok (.slice a (len+cnt) cap) w'
  | .halt h w' => .halt h w') ∧
 (cap<len+cnt->∀ old:List Value,(Builtin.firstCells n cnt x).run P { w with drawn:=w.drawn+1 } = .ok cs.toArray { w with drawn:=w.drawn+1 } →
  (Builtin.firstCells n len (.slice a len cap)).run P { w with drawn:=w.drawn+1 } = .ok old.toArray { w with drawn:=w.drawn+1 }->∃ (c:Nat) (more:Array Value),len+cnt<=c/\more.size=(c-(len+cnt))*z.cells.length/\(∀ v∈more.toList,cB v=true) ∧
  (Builtin.append_ #[t,u] ty #[.slice a len cap,x]).run P w =
   .ok (.slice (some ⟨w.heap.size,0,none⟩) (len+cnt) c) { w with drawn:=w.drawn+1,heap:=w.heap.push (.cells ((old++cs).toArray++more) e (0,0)) }):=by
 obtain ⟨i,hi,hib⟩:=tH (P:=P) (w:=w) hb
 have hi':∀ w',(typeInfo e).run P w' = .ok i w':=by
  intro w'
  obtain ⟨i',h1,_⟩:=tH (P:=P) (w:=w') hb
  have:P.info? e=some i:=by
   simp only [typeInfo,run_bind,program,Sem.run] at hi
   cases hx:P.info? e with
   | none=>rw [hx] at hi;simp [stuck,Sem.run] at hi
   | some k=>rw [hx] at hi;simp only [run_pure] at hi;cases hi;rfl
  simp [typeInfo,run_bind,run_pure,program,Sem.run,this]
 have Wr:∃ d,P.underlying u=some d/\∀ k,d ≠ .int k:=by
  unfold we at hu
  split at hu
  · rename_i PW;exact ⟨_,PW,fun k h=>by cases h⟩
  · rename_i PW;exact ⟨_,PW,fun k h=>by cases h⟩
  · cases hu
 obtain ⟨d,hd,hdk⟩:=Wr
 have Yz:(match d with | .int _=>true | _=>false)=false:=by
  cases d<;>first | rfl | (rename_i k;exact (hdk k rfl).elim)
 constructor
 · intro hle hcs
   simp only [Builtin.append_,run_bind,run_pure,aN ht,aN hd,cQ hn,List.getElem?_toArray,List.getElem?_cons_zero,List.getElem?_cons_succ,Yz,Bool.false_eq_true,if_false,hlen,if_pos hle,
    Bool.not_false,if_true,hcs]
   cases a with
   | none=>simp [run_pure]
   | some a =>
     simp only [run_bind]
     cases (storeCells (a.add (len*n)) cs).run P w with
     | halt h w'=>rfl
     | ok x w'=>rfl
 · intro hgt old hcs hold
   have hgrow:=growslice_fits (bytes:=b) hgt hsmall
   obtain ⟨zv,xS,dX⟩:=fD (P:=P) (w:={ w with drawn:=w.drawn+1 }) (ι:=fun _=>none) hz
   have hzl:=aL (bM.cells dX)
   let c:=(len+cnt)+(w.tape w.drawn (.appendCap (len+cnt) cap e))%(2 ^ 63-(len+cnt))
   have hch:(choose (.appendCap (len+cnt) cap e)).run P w = .ok c { w with drawn:=w.drawn+1 }:=by
    simp only [choose,Sem.run,Question.forced,Bool.false_eq_true,if_false,Question.cut,c]
   refine ⟨c,Builtin.zeroCells zv.cells (c-(len+cnt)),by simp only [c];omega,by simp [Builtin.zeroCells,hzl],jr (cy (bM.cells dX)) _,?_⟩
   have Hl:¬ (((len+cnt:Nat):Int)>IntKind.i64.max/\(False\/i.bytes=0)):=by rw [hib];rintro ⟨_,h | h⟩;exact h;exact hb0 h
   have Hm:¬ (Builtin.nextslicecap (len+cnt) cap*i.bytes>2 ^ 48):=by rw [hib];omega
   simp only [Builtin.append_,run_bind,run_pure,aN ht,aN hd,cQ hn,List.getElem?_toArray,List.getElem?_cons_zero,List.getElem?_cons_succ,Yz,Bool.false_eq_true,if_false,hlen,
    if_neg (Nat.not_le.2 hgt),Bool.not_false,if_true,hi']
   rw [if_neg Hl]
   simp only [run_bind,hi']
   rw [if_neg Hm]
   simp only [run_bind,hch,hi',run_askRoom,hold,hcs,xS,newRow,newObj,Sem.run,run_pure]
   simp
end
section
variable {P:Program} {ι:bP} {w:World} {σ:St}
theorem sx {i:Nat} {L:Loc} {vs:List S} (hR:Rel ι σ.get w) (hL:ι i=some L) (hb:σ.get i=some (.cells true vs)):Ext ι σ w ι (σ.set i .dead) w/\Rel ι (σ.set i .dead).get w:=by
 constructor
 · refine ⟨Nat.le_refl _,fun _ _=>rfl,?_,?_,?_,fun k M h1 h2=>by simp at h2;omega,rfl,rfl,Nat.le_refl _,fun _ _ _=>rfl⟩
   · intro k hk hl
     by_cases e:k=i
     · subst e;rw [St.ar] at hl;exact hl.elim
     · rwa [St.aj _ _ e] at hl
   · intro k hk hl
     by_cases e:k=i
     · subst e;rw [St.ar] at hl;exact hl.elim
     · rwa [St.aj _ _ e] at hl
   · intro k hk hn
     by_cases e:k=i
     · subst e;rw [hL] at hn;cases hn
     · exact St.aj _ _ e
 · constructor
   · intro k M b hM hbk
     by_cases e:k=i
     · subst e;rw [St.ar] at hbk;cases hbk;trivial
     · rw [St.aj _ _ e] at hbk;exact hR.blk k M b hM hbk
   · intro k j M N hM hN hl hh hne
     by_cases e:k=i
     · subst e;rw [St.ar] at hl;exact hl.elim
     · rw [St.aj _ _ e] at hl
       by_cases ej:j=i
       · subst ej;rw [St.ar] at hh;exact hh.elim
       · rw [St.aj _ _ ej] at hh
         exact hR.sep k j M N hM hN hl hh hne
   · intro k n vs hg
     by_cases e:k=i
     · subst e;exact ⟨L,hL⟩
     · rw [St.aj _ _ e] at hg
       exact hR.dN k n vs hg
theorem rJ (wf:σ.wf) {i:Nat} (hi:i<σ.size):(σ.set i .dead).wf:=St.wf_set wf hi _
theorem tC (hR:Rel ι σ.get w) (wf:σ.wf) (hf:ι σ.size=none) {i:Nat} {L M:Loc} {vs:List S} (hL:ι i=some L) (hb:σ.get i=some (.cells true vs)) (ob:Obj) (hM:M.b=L.b) (b:dO)
 (QV:dL ι M { w with heap:=w.heap.setIfInBounds L.b ob } b) :
 Ext ι σ w (qL ι σ.size M) ((σ.set i .dead).push b) { w with heap:=w.heap.setIfInBounds L.b ob } ∧
  Rel (qL ι σ.size M) ((σ.set i .dead).push b).get { w with heap:=w.heap.setIfInBounds L.b ob }:=by
 have hi:=wf.lt hb
 have hle:=wW M hf
 have hold:∀ k,k≠L.b->(w.heap.setIfInBounds L.b ob)[k]? = w.heap[k]? := fun k hk=>Array.getElem?_setIfInBounds_ne (fun e=>hk e.symm)
 have cg:∀ k,k≠σ.size->k≠i->((σ.set i .dead).push b).get k=σ.get k:=by
  intro k h1 h2
  rw [St.aI _ _ (by simpa using h1),St.aj _ _ h2]
 have JB:((σ.set i .dead).push b).get i=some .dead:=by
  rw [St.aI _ _ (by simp;omega),St.ar]
 have VI:((σ.set i .dead).push b).get σ.size=some b:=by
  have:=St.aq (σ.set i .dead) b
  simpa using this
 constructor
 · refine ⟨by simp,?_,?_,?_,?_,?_,rfl,rfl,by simp,?_⟩
   · intro k hk
     simp only [St.size_push,St.size_set] at hk
     exact eE _ _ (by omega)
   · intro k hk hl
     by_cases e:k=i
     · subst e;rw [JB] at hl;exact hl.elim
     · rwa [cg k (by omega) e] at hl
   · intro k hk hl
     by_cases e:k=i
     · subst e;rw [JB] at hl;exact hl.elim
     · rwa [cg k (by omega) e] at hl
   · intro k hk hn
     by_cases e:k=i
     · subst e;rw [hL] at hn;cases hn
     · exact cg k (by omega) e
   · intro k N h1 h2 hN _
     simp only [St.size_push,St.size_set] at h2
     have:k=σ.size:=by omega
     subst this
     rw [bq] at hN;cases hN
     exact .inr ⟨i,L,hi,hL,hM.symm,by rw [hb];trivial⟩
   · intro k hk hn
     refine hold k fun e => ?_
     exact hn i L hi hL (by rw [hb];trivial) e.symm
 · constructor
   · intro k N c hN hc
     by_cases e:k=σ.size
     · subst e
       rw [bq] at hN;cases hN
       rw [VI] at hc;cases hc
       exact QV.mono hle
     · rw [eE _ _ e] at hN
       by_cases e2:k=i
       · subst e2;rw [JB] at hc;cases hc;trivial
       · rw [cg k e e2] at hc
         have hr:=hR.blk k N c hN hc
         cases c with
         | dead=>trivial
         | cells own vs'=>exact (hr.mono hle).congr (hold _ (Ne.symm (hR.sep i k L N hL hN (by rw [hb];trivial) (by rw [hc];trivial) (Ne.symm e2))))
         | map es=>exact (hr.mono hle).congr (hold _ (Ne.symm (hR.sep i k L N hL hN (by rw [hb];trivial) (by rw [hc];trivial) (Ne.symm e2))))
         | dN g vs=>exact (hr.mono hle).congr (hold _ (Ne.symm (hR.sep i k L N hL hN (by rw [hb];trivial) (by rw [hc];trivial) (Ne.symm e2))))
   · intro k j N N' hN NC hl hh hne
     by_cases ek:k=i
     · subst ek;rw [JB] at hl;exact hl.elim
     · by_cases ej:j=i
       · subst ej;rw [JB] at hh;exact hh.elim
       · by_cases e:k=σ.size
         · subst e
           rw [bq] at hN;cases hN
           have Ye:j≠σ.size:=fun x=>hne x.symm
           rw [eE _ _ Ye] at NC
           rw [cg j Ye ej] at hh
           rw [hM]
           exact hR.sep i j L N' hL NC (by rw [hb];trivial) hh (Ne.symm ej)
         · rw [eE _ _ e] at hN
           rw [cg k e ek] at hl
           by_cases e2:j=σ.size
           · subst e2
             rw [bq] at NC;cases NC
             rw [hM]
             exact hR.sep k i N L hN hL hl (by rw [hb];trivial) ek
           · rw [eE _ _ e2] at NC
             rw [cg j e2 ej] at hh
             exact hR.sep k j N N' hN NC hl hh hne
   · intro k n vs hg
     by_cases e:k=σ.size
     · subst e;exact ⟨_,bq _ _ _⟩
     · by_cases ek:k=i
       · subst ek;rw [JB] at hg;cases hg
       · rw [cg k e ek] at hg
         obtain ⟨N,hN⟩:=hR.dN k n vs hg
         exact ⟨N,by rw [eE _ _ e];exact hN⟩
theorem Ed {i o m:Nat} {L:Loc} {vs xs:List S} {cs:List Value} (hR:Rel ι σ.get w) (hL:ι i=some L) (hb:σ.get i=some (.cells true vs)) (hm:o+m<=vs.length)
 (hx:bf (bb ι) xs cs) (hsz:L.base+o+m+xs.length<=L.size) :
 ∃ ob,(storeCells ⟨L.b,L.base+o+m,none⟩ cs).run P w = .ok () { w with heap:=w.heap.setIfInBounds L.b ob } ∧
   dL ι ⟨L.b,L.base+o,L.size,L.ty⟩ { w with heap:=w.heap.setIfInBounds L.b ob } (.cells true ((vs.drop o).take m++xs)):=by
 obtain ⟨c,e,fz,h1,h2,h3,h4,h5⟩:=hR.blk i L _ hL hb
 have hlen:=aL hx
 obtain ⟨c',hrun,hs,cg⟩:=iJ P L.b e fz cs (L.base+o+m) 0 w c h1 (by omega) (fun j hj hh=>by have:=(h5 rfl).1;omega) (cy hx)
 have hlt:=(Array.getElem?_eq_some_iff.1 h1).1
 refine ⟨.cells c' e fz,hrun,c',e,fz,by simp [hlt],by show c'.size=L.size;omega,?_,?_,fun _=>⟨by have:=(h5 rfl).1;omega,iK (h5 rfl).2 (cy hx) _ cg⟩⟩
 · show L.base+o+((vs.drop o).take m++xs).length<=L.size
   simp;omega
 · intro j x hj
   have Hj:((vs.drop o).take m).length=m:=by simp;omega
   show ∃ v,c'[L.base+o+j]? = some v/\bb ι x v
   rw [cg]
   by_cases hjm:j<m
   · rw [List.getElem?_append_left (by omega),List.getElem?_take,if_pos hjm,List.getElem?_drop] at hj
     rw [if_neg (by omega)]
     have:=h4 (o+j) x hj
     rw [← Nat.add_assoc] at this
     exact this
   · rw [List.getElem?_append_right (by omega),Hj] at hj
     obtain ⟨v,hv,r⟩:=bZ hx _ _ hj
     have hjl:=(List.getElem?_eq_some_iff.1 hv).1
     rw [if_pos (by omega)]
     have e1:L.base+o+j-(L.base+o+m+0)=j-m:=by omega
     rw [e1]
     exact ⟨v,hv,r⟩
theorem ir {e:TypeId} {xs:List S} {cs:List Value} (hx:bf (bb ι) xs cs) (more:Array Value) (hm:∀ v∈more.toList,cB v=true) :
 ji ι w { w with drawn:=w.drawn+1,heap:=w.heap.push (.cells (cs.toArray++more) e (0,0)) } ⟨w.heap.size,0,cs.length+more.size,e⟩ (.cells true xs):=by
 have h:=iG (ι:=ι) (w:=w) (e:=e) hx more hm _ rfl
 exact ⟨h.FH,h.os,h.output,h.size,h.keep,h.blk⟩
theorem uB (xs:List S) (n e:Nat) (h:xs.length=n*e):xs.take (n*e)=xs:=List.take_of_length_le (by omega)
theorem zE {i o n c:Nat} {L:Loc} (hL:ι i=some L) (h:n<=c):aJ ι (Z (.sl i o n (.known c))) (.slice (some ⟨L.b,L.base+o,none⟩) n c):=⟨L,hL,rfl,h⟩
theorem eP {i o n c e:Nat} {L:Loc} (hL:ι i=some L) (h:n<=c) (hs:L.base+o+c*e=L.size):aJ ι (Z (.sl i o n (.grown e))) (.slice (some ⟨L.b,L.base+o,none⟩) n c):=⟨L,c,hL,rfl,h,hs⟩
set_option maxHeartbeats 400000 in
theorem x5 {t u ty el:TypeId} {e b:Nat} {z:V} {s x:T} {us ux:Value} {r:T} {τ:St} (ht:P.underlying t=some (.slice el)) (hn:cN P el=some e) (hby:wo P el=some b) (hz:zeroOf P el=some z)
 (hzl:z.cells.length=e) (hu:we P u=true) (hb0:b≠0) (hR:Rel ι σ.get w) (wf:σ.wf) (hf:gR ι σ.size τ.size) (hs:aJ ι s us) (hx:aJ ι x ux) (h:aH e b s x σ=some (r,τ)) :
 ∃ κ v w',(Builtin.append_ #[t,u] ty #[us,ux]).run P w = .ok v w'/\Ext ι σ w κ τ w'/\Rel κ τ.get w'/\aJ κ r v/\τ.wf:=by
 unfold aH at h
 split at h
 · cases h
 rename_i n xs hsrc
 obtain ⟨hxl,hlen,sM⟩:=rQ (P:=P) hR hx hsrc
 have L6:Rel ι σ.get { w with drawn:=w.drawn+1 }:=hR.heap rfl
 obtain ⟨_,_,L9⟩:=rQ (P:=P) L6 hx hsrc
 obtain ⟨cs,hc,DP⟩:=sM n (Nat.le_refl _)
 obtain ⟨ds,hd,mE⟩:=L9 n (Nat.le_refl _)
 rw [uB xs n e hxl] at DP mE
 have mv:=aL DP
 have hdl:=aL mE
 split at h
 · cases h
 rename_i AZ
 split at h
 · simp only [aJ,bM,bb] at hs
   subst hs
   split at h
   · rename_i h0
     subst h0
     cases h
     obtain ⟨hin,_⟩:=ei (P:=P) (w:=w) (ty:=ty) ht hn hby hz hu hb0 (a:=none) (len:=0) (cap:=0) hlen (cs:=cs) (Nat.le_refl _) (by omega)
     exact ⟨ι,.slice none 0 0,w,hin (Nat.le_refl _) hc,Ext.refl _ _ _,hR,rfl,wf⟩
   · rename_i h0
     split at h
     · rename_i va
       cases h
       obtain ⟨_,PH⟩:=ei (P:=P) (w:=w) (ty:=ty) ht hn hby hz hu hb0 (a:=none) (len:=0) (cap:=0) hlen (cs:=ds) (Nat.le_refl _) (by simpa using va)
       obtain ⟨c,more,wN,kW,hone,hrun⟩:=PH (by omega) [] hd (by simp [Builtin.firstCells,run_pure])
       have hfree:ι σ.size=none:=hf σ.size (Nat.le_refl _) (by simp)
       have hN:=ir (ι:=ι) (w:=w) (e:=el) mE more hone
       refine ⟨_,_,_,hrun,jQ hN,by rw [fW];exact jc hR hfree hN,?_,St.bn wf _⟩
       simp only [Nat.zero_add] at wN kW ⊢
       refine eP (bq _ _ _) wN ?_
       show 0+0+c*e=ds.length+more.size
       rw [kW,hzl,← hdl,hxl,← Nat.add_mul]
       simp only [Nat.zero_add]
       congr 1;omega
     · cases h
 · rename_i i o len c
   split at h
   · rename_i va
     obtain ⟨L,hL,rfl,hlc⟩:=hs
     split at h
     · rename_i own vs hb
       split at h
       · rename_i hle
         obtain ⟨hin,_⟩:=ei (P:=P) (w:=w) (ty:=ty) ht hn hby hz hu hb0 (a:=some ⟨L.b,L.base+o,none⟩) (len:=len) (cap:=c) hlen (cs:=cs) hlc va
         have hrun:=hin hle hc
         split at h
         · rename_i sL
           obtain ⟨rfl,hvs⟩:=sL
           cases h
           obtain ⟨κ,w',_,hst,hE,oD,rfl⟩:=dG (P:=P) hR wf hL hb (o:=o+len*e) (xs:=xs) (by omega) DP
           simp only [add_eq] at hrun
           rw [Nat.add_assoc,hst] at hrun
           exact ⟨_,_,w',hrun,hE,oD,zE hL hle,St.wf_set wf (wf.lt hb) _⟩
         · split at h
           · rename_i h0
             subst h0
             cases h
             have hcs:cs=[]:=List.eq_nil_of_length_eq_zero (by omega)
             subst hcs
             simp only [storeCells,run_pure] at hrun
             exact ⟨ι,_,w,hrun,Ext.refl _ _ _,hR,zE hL (by omega),wf⟩
           · cases h
       · rename_i hgt
         split at h
         · rename_i hvs
           cases h
           obtain ⟨_,PH⟩:=ei (P:=P) (w:=w) (ty:=ty) ht hn hby hz hu hb0 (a:=some ⟨L.b,L.base+o,none⟩) (len:=len) (cap:=c) hlen (cs:=ds) hlc va
           obtain ⟨old,ho,mG⟩:=run_loadCells (P:=P) L6 hL hb (o:=o) (n:=len*e) rfl (by simp;omega)
           obtain ⟨c',more,wN,kW,hone,hrun⟩:=PH (by omega) old hd (by simpa [Builtin.firstCells] using ho)
           have hfree:ι σ.size=none:=hf σ.size (Nat.le_refl _) (by simp)
           have hall:=cD mG mE
           have hol:=aL mG
           have hN:=ir (ι:=ι) (w:=w) (e:=el) hall more hone
           refine ⟨_,_,_,hrun,jQ hN,by rw [fW];exact jc hR hfree hN,?_,St.bn wf _⟩
           refine eP (bq _ _ _) wN ?_
           show 0+0+c'*e=(old++ds).length+more.size
           have eC:((vs.drop o).take (len*e)).length=len*e:=by simp;omega
           rw [kW,hzl,List.length_append,← hdl,hxl,← hol,eC,← Nat.add_mul,← Nat.add_mul]
           simp only [Nat.zero_add]
           congr 1;omega
         · cases h
     · cases h
   · cases h
 · rename_i i o len q
   split at h
   · rename_i sL
     obtain ⟨hq,va⟩:=sL
     have pV:=hq.symm
     subst pV
     obtain ⟨L,c,hL,rfl,hlc,hsz⟩:=hs
     obtain ⟨hin,_⟩:=ei (P:=P) (w:=w) (ty:=ty) ht hn hby hz hu hb0 (a:=some ⟨L.b,L.base+o,none⟩) (len:=len) (cap:=c) hlen (cs:=cs) hlc va
     obtain ⟨_,PH⟩:=ei (P:=P) (w:=w) (ty:=ty) ht hn hby hz hu hb0 (a:=some ⟨L.b,L.base+o,none⟩) (len:=len) (cap:=c) hlen (cs:=ds) hlc va
     split at h
     · rename_i h0
       subst h0
       cases h
       have hcs:cs=[]:=List.eq_nil_of_length_eq_zero (by omega)
       subst hcs
       have hrun:=hin (by omega) hc
       simp only [storeCells,run_pure] at hrun
       exact ⟨ι,_,w,hrun,Ext.refl _ _ _,hR,eP hL (by omega) hsz,wf⟩
     · rename_i h0
       split at h
       · rename_i vs hb
         have QV:=hR.blk i L _ hL hb
         obtain ⟨bc,be,TQ,U0,ZG,ZH,_⟩:=QV
         split at h
         · rename_i hvs
           cases h
           have hle:len+n<=c:=by
            have h1:(len+n)*e<=c*e:=by omega
            exact Nat.le_of_mul_le_mul_right h1 (Nat.pos_of_ne_zero AZ)
           have hrun:=hin hle hc
           have e1:(len+n)*e=len*e+n*e:=Nat.add_mul ..
           obtain ⟨κ,w',_,hst,hE,oD,rfl⟩:=dG (P:=P) hR wf hL hb (o:=o+len*e) (xs:=xs) (by omega) DP
           simp only [add_eq] at hrun
           rw [Nat.add_assoc,hst] at hrun
           exact ⟨_,_,w',hrun,hE,oD,eP hL hle hsz,St.wf_set wf (wf.lt hb) _⟩
         · split at h
           · rename_i hvs
             cases h
             have hfree:ι σ.size=none:=hf σ.size (Nat.le_refl _) (by simp)
             by_cases hle:len+n<=c
             · have hrun:=hin hle hc
               have e1:(len+n)*e=len*e+n*e:=Nat.add_mul ..
               have e2:(len+n)*e<=c*e:=Nat.mul_le_mul_right e hle
               obtain ⟨ob,hst,hbk⟩:=Ed (P:=P) hR hL hb (o:=o) (m:=len*e) hvs DP (by omega)
               simp only [add_eq] at hrun
               rw [hst] at hrun
               obtain ⟨hE,oD⟩:=tC hR wf hfree hL hb ob (M:=⟨L.b,L.base+o,L.size,L.ty⟩) rfl _ hbk
               refine ⟨_,_,_,hrun,hE,oD,?_,St.bn (rJ wf (wf.lt hb)) _⟩
               exact eP (L:=⟨L.b,L.base+o,L.size,L.ty⟩) (bq _ _ _) hle (by simpa using hsz)
             · obtain ⟨old,ho,mG⟩:=run_loadCells (P:=P) L6 hL hb (o:=o) (n:=len*e) rfl (by simp;omega)
               obtain ⟨c',more,wN,kW,hone,hrun⟩:=PH (by omega) old hd (by simpa [Builtin.firstCells] using ho)
               have hall:=cD mG mE
               have hol:=aL mG
               have hN:=ir (ι:=ι) (w:=w) (e:=el) hall more hone
               obtain ⟨hE,Pu⟩:=sx hR hL hb
               refine ⟨_,_,_,hrun,hE.trans (jQ hN),by rw [fW];exact jc Pu hfree hN,?_,St.bn (rJ wf (wf.lt hb)) _⟩
               refine eP (bq _ _ _) wN ?_
               show 0+0+c'*e=(old++ds).length+more.size
               have eC:((vs.drop o).take (len*e)).length=len*e:=by simp;omega
               rw [kW,hzl,List.length_append,← hdl,hxl,← hol,eC,← Nat.add_mul,← Nat.add_mul]
               simp only [Nat.zero_add]
               congr 1;omega
           · cases h
       · cases h
   · cases h
 · rename_i i q
   split at h
   · rename_i sL
     obtain ⟨hq,va⟩:=sL
     have pV:=hq.symm
     subst pV
     obtain ⟨L,A,c,hL,rfl,hsz⟩:=hs
     obtain ⟨hin,_⟩:=ei (P:=P) (w:=w) (ty:=ty) ht hn hby hz hu hb0 (a:=some A) (len:=0) (cap:=c) hlen (cs:=cs) (Nat.zero_le _) (by simpa using va)
     obtain ⟨_,PH⟩:=ei (P:=P) (w:=w) (ty:=ty) ht hn hby hz hu hb0 (a:=some A) (len:=0) (cap:=c) hlen (cs:=ds) (Nat.zero_le _) (by simpa using va)
     split at h
     · rename_i h0
       subst h0
       cases h
       have hcs:cs=[]:=List.eq_nil_of_length_eq_zero (by omega)
       subst hcs
       have hrun:=hin (by omega) hc
       simp only [storeCells,run_pure] at hrun
       exact ⟨ι,_,w,hrun,Ext.refl _ _ _,hR,⟨L,A,c,hL,rfl,hsz⟩,wf⟩
     · rename_i h0
       split at h
       · rename_i vs hb
         cases h
         have hfree:ι σ.size=none:=hf σ.size (Nat.le_refl _) (by simp)
         by_cases hle:0+n<=c
         · have hrun:=hin hle hc
           obtain ⟨o,rfl,Wo⟩:=hsz.resolve_left (by omega)
           have e2:n*e<=c*e:=Nat.mul_le_mul_right e (by omega)
           obtain ⟨bc,be,TQ,U0,ZG,ZH,bh4,U2⟩:=hR.blk i L _ hL hb
           obtain ⟨c',hst,NQ,cg⟩:=iJ P L.b be TQ cs (L.base+o) 0 w bc U0 (by omega) (fun j hj hh=>by have:=(U2 rfl).1;omega) (cy DP)
           have hlt:=(Array.getElem?_eq_some_iff.1 U0).1
           have hbk:dL ι ⟨L.b,L.base+o,L.size,L.ty⟩ { w with heap:=w.heap.setIfInBounds L.b (.cells c' be TQ) } (.cells true xs):=by
            refine ⟨c',be,TQ,by simp [hlt],by show c'.size=L.size;omega,by show L.base+o+xs.length<=L.size;omega,?_,fun _=>⟨by have:=(U2 rfl).1;omega,iK (U2 rfl).2 (cy DP) _ cg⟩⟩
            intro j x hj
            show ∃ v,c'[L.base+o+j]? = some v/\bb ι x v
            obtain ⟨v,hv,r⟩:=bZ DP _ _ hj
            have hjl:=(List.getElem?_eq_some_iff.1 hv).1
            rw [cg,if_pos (by omega)]
            have e1:L.base+o+j-(L.base+o+0)=j:=by omega
            rw [e1]
            exact ⟨v,hv,r⟩
           simp only [Nat.zero_mul,add_eq,Nat.add_zero,Nat.zero_add] at hrun hst
           rw [hst] at hrun
           obtain ⟨hE,oD⟩:=tC hR wf hfree hL hb _ (M:=⟨L.b,L.base+o,L.size,L.ty⟩) rfl _ hbk
           refine ⟨_,_,_,hrun,hE,oD,?_,St.bn (rJ wf (wf.lt hb)) _⟩
           exact eP (L:=⟨L.b,L.base+o,L.size,L.ty⟩) (bq _ _ _) (by omega) (by simpa using Wo)
         · obtain ⟨c',more,wN,kW,hone,hrun⟩:=PH (by omega) [] hd (by simp [Builtin.firstCells,loadCells,loadCellsFrom,run_pure])
           have hN:=ir (ι:=ι) (w:=w) (e:=el) mE more hone
           obtain ⟨hE,Pu⟩:=sx hR hL hb
           refine ⟨_,_,_,hrun,hE.trans (jQ hN),by rw [fW];exact jc Pu hfree hN,?_,St.bn (rJ wf (wf.lt hb)) _⟩
           simp only [Nat.zero_add] at wN kW ⊢
           refine eP (bq _ _ _) wN ?_
           show 0+0+c'*e=ds.length+more.size
           rw [kW,hzl,← hdl,hxl,← Nat.add_mul]
           simp only [Nat.zero_add]
           congr 1;omega
       · cases h
   · cases h
 · cases h
end
section
variable {P:Program} {ι:bP} {w:World} {σ:St}
theorem C9 {t u ty el:TypeId} {e:Nat} {d x:T} {ud ux:Value} {r:T} {τ:St} (ht:P.underlying t=some (.slice el)) (hn:cN P el=some e)
 (hR:Rel ι σ.get w) (wf:σ.wf) (hd:aJ ι d ud) (hx:aJ ι x ux) (h:fM e d x σ=some (r,τ)) :
 ∃ v w',(Builtin.copy_ #[t,u] ty #[ud,ux]).run P w = .ok v w'/\Ext ι σ w ι τ w'/\Rel ι τ.get w'/\aJ ι r v/\τ.wf:=by
 unfold fM at h
 split at h
 · cases h
 rename_i n xs hsrc
 obtain ⟨hxl,hlen,sM⟩:=rQ (P:=P) hR hx hsrc
 split at h
 · simp only [aJ,bM,bb] at hd;subst hd
   cases h
   obtain ⟨cs,hc,DP⟩:=sM 0 (Nat.zero_le _)
   refine ⟨.int .i64 0,w,?_,Ext.refl _ _ _,hR,rfl,wf⟩
   simp [Builtin.copy_,run_bind,aN ht,hlen,cQ hn,hc,run_pure,goInt]
 · obtain ⟨L,o,c,hL,rfl,_⟩:=hd
   cases h
   obtain ⟨cs,hc,DP⟩:=sM 0 (Nat.zero_le _)
   have hcs:cs=[]:=List.eq_nil_of_length_eq_zero (by have:=aL DP;simp at this;omega)
   subst hcs
   refine ⟨.int .i64 0,w,?_,Ext.refl _ _ _,hR,rfl,wf⟩
   simp [Builtin.copy_,run_bind,aN ht,hlen,cQ hn,hc,run_pure,goInt,storeCells]
 · rename_i i o len c
   obtain ⟨L,k,hL,rfl,_⟩:=fE hd
   split at h
   · rename_i vs hb
     split at h
     · rename_i hle
       cases h
       obtain ⟨cs,hc,DP⟩:=sM (Nat.min n len) (Nat.min_le_left ..)
       have hmul:Nat.min n len*e<=n*e:=Nat.mul_le_mul_right e (Nat.min_le_left ..)
       have SG:(xs.take (Nat.min n len*e)).length=Nat.min n len*e:=by simp;omega
       obtain ⟨κ,w',_,hst,hE,oD,rfl⟩:=dG (P:=P) hR wf hL hb (o:=o) (by omega) DP
       refine ⟨.int .i64 (Nat.min n len),w',?_,hE,oD,rfl,St.wf_set wf (wf.lt hb) _⟩
       simp only [Builtin.copy_,run_bind,aN ht,hlen,cQ hn,hc,run_pure,goInt,List.getElem?_toArray,List.getElem?_cons_zero,List.getElem?_cons_succ,hst]
     · cases h
   · cases h
 · cases h
theorem Aj {t ty el:TypeId} {e:Nat} {z:V} {x:T} {ux:Value} {r:T} {τ:St} (ht:P.underlying t=some (.slice el)) (hn:cN P el=some e) (hz:zeroOf P el=some z) (hzl:z.cells.length=e)
 (hR:Rel ι σ.get w) (wf:σ.wf) (hx:aJ ι x ux) (h:kP e z.cells x σ=some (r,τ)) :
 ∃ w',(Builtin.clear_ #[t] ty #[ux]).run P w = .ok undef w'/\Ext ι σ w ι τ w'/\Rel ι τ.get w'/\r=tt/\τ.wf:=by
 unfold kP at h
 split at h
 · simp only [aJ,bM,bb] at hx;subst hx
   cases h
   exact ⟨w,by simp [Builtin.clear_,run_bind,aN ht,run_pure,undef],Ext.refl _ _ _,hR,rfl,wf⟩
 · obtain ⟨L,o,c,hL,rfl,_⟩:=hx
   cases h
   exact ⟨w,by simp [Builtin.clear_,run_bind,aN ht,run_pure,undef],Ext.refl _ _ _,hR,rfl,wf⟩
 · rename_i i o len c
   obtain ⟨L,k,hL,rfl,_⟩:=fE hx
   split at h
   · rename_i h0
     cases h
     subst h0
     exact ⟨w,by simp [Builtin.clear_,run_bind,aN ht,run_pure,undef],Ext.refl _ _ _,hR,rfl,wf⟩
   · rename_i h0
     split at h
     · rename_i vs hb
       split at h
       · rename_i hle
         cases h
         obtain ⟨v,hv,rv⟩:=fD (P:=P) (w:=w) (ι:=ι) hz
         have hc:=bM.cells rv
         obtain ⟨ds,hd,rd⟩:=jG hc len e hzl
         have hzs:(dc len z.cells).length=len*e:=by simp [dc,hzl]
         obtain ⟨κ,w',_,hst,hE,oD,rfl⟩:=dG (P:=P) hR wf hL hb (o:=o) (xs:=dc len z.cells) (by rw [hzs];exact hle) rd
         refine ⟨w',?_,hE,oD,rfl,St.wf_set wf (wf.lt hb) _⟩
         have hlen:=aL hc
         have zW:(Builtin.zeroCells v.cells len).toList=ds:=by
          unfold Builtin.zeroCells
          have e1:len*v.cells.size=len*e:=by rw [show v.cells.size=e by rw [← hzl,hlen];simp]
          rw [e1,← Array.toArray_toList (xs:=v.cells),hd]
         obtain ⟨m,rfl⟩:∃ m,len=m+1:=⟨len-1,by omega⟩
         simp [Builtin.clear_,run_bind,aN ht,run_pure,undef,hv,zW,hst,Result.andThen]
       · cases h
     · cases h
 · cases h
theorem Dc {x:T} {ux:Value} {r:T} {τ:St} (hR:Rel ι σ.get w) (wf:σ.wf) (hx:aJ ι x ux) (h:ya x σ=some (r,τ)) :
 ∃ a n c w',ux = .slice (some a) n c/\(markStringish a).run P w = .ok () w'/\Ext ι σ w ι τ w'/\Rel ι τ.get w'/\aJ ι r ux/\τ.wf:=by
 unfold ya at h
 split at h
 · rename_i i o len cap
   split at h
   · rename_i vs hb
     cases h
     obtain ⟨L,k,hL,rfl,_⟩:=fE hx
     obtain ⟨c,e,fz,h1,h2,h3,h4,h5⟩:=hR.blk i L _ hL hb
     have hlt:=(Array.getElem?_eq_some_iff.1 h1).1
     have hg:=(Array.getElem?_eq_some_iff.1 h1).2
     have hrun:(markStringish ⟨L.b,L.base+o,none⟩).run P w = .ok () (w.freeze ⟨L.b,c.size,none⟩ 1):=by
      unfold markStringish
      rw [run_bind]
      have hs:w.shape? L.b=some (e,c.size):=by
       unfold World.shape?
       rw [h1]
      have:(shape L.b).run P w = .ok (some (e,c.size)) w:=by
       rw [← hs]
       rfl
      simp only [this]
      rfl
     have Sd:w.freeze ⟨L.b,c.size,none⟩ 1={ w with heap:=w.heap.setIfInBounds L.b (.cells c e (if fz.1 == fz.2 then (c.size,c.size+1) else (min fz.1 c.size,max fz.2 (c.size+1)))) }:=by
      unfold World.freeze
      rw [if_neg (by omega)]
      congr 1
      apply Array.ext_getElem?
      intro k
      rw [Array.getElem?_modify,Array.getElem?_setIfInBounds]
      by_cases hk:L.b=k
      · subst hk
        rw [if_pos rfl,if_pos rfl,if_pos hlt,h1]
        rfl
      · rw [if_neg hk,if_neg hk]
     generalize (if fz.1 == fz.2 then (c.size,c.size+1) else (min fz.1 c.size,max fz.2 (c.size+1)))=Yj at Sd
     obtain ⟨he,hr⟩:=xu hR wf hL hb trivial (.cells c e Yj) (.cells false vs) trivial ⟨c,e,Yj,by simp [hlt],h2,h3,h4,fun h=>by cases h⟩
     rw [← Sd] at he hr
     exact ⟨_,_,_,_,rfl,hrun,he,hr,hx,St.wf_set wf (wf.lt hb) _⟩
   · cases h
 · cases h
theorem vU {z:List S} {e:Nat} (hz:z.length=e) (m:Nat):(dc m z).length=m*e:=by
 induction m with
 | zero=>simp [dc]
 | succ k ih=>simp only [dc,List.replicate_succ,List.flatten_cons,List.length_append] at ih ⊢;rw [ih,hz,Nat.add_mul];omega
theorem AU {t u ty el:TypeId} {e b:Nat} {z:V} {i o k c m:Nat} {us:Value} {vs:List S} (ht:P.underlying t=some (.slice el)) (hn:cN P el=some e) (hby:wo P el=some b) (hz:zeroOf P el=some z)
 (hzl:z.cells.length=e) (hu:rU P u=true) (hb0:b≠0) (hR:Rel ι σ.get w) (wf:σ.wf) (hf:gR ι σ.size (σ.size+1)) (hs:aJ ι (Z (.sl i o k (.known c))) us) (hb:σ.get i=some (.cells true vs))
 (h0:0<m) (hc:c<k+m) (va:(k+m)*b<=140737488355328) (AZ:e≠0) (hvs:o+k*e<=vs.length) :
 ∃ κ v w',(Builtin.append_ #[t,u] ty #[us,.int .i64 (m:Int)]).run P w = .ok v w'/\Ext ι σ w κ (σ.push (.cells true ((vs.drop o).take (k*e)++dc m z.cells))) w' ∧
   Rel κ (σ.push (.cells true ((vs.drop o).take (k*e)++dc m z.cells))).get w'/\aJ κ (Z (.sl σ.size 0 (k+m) (.grown e))) v:=by
 obtain ⟨L,hL,rfl,hlc⟩:=hs
 have L6:Rel ι σ.get w.drew:=hR.heap rfl
 obtain ⟨old,ho,mG⟩:=run_loadCells (P:=P) L6 hL hb (o:=o) (n:=k*e) rfl (by simp;omega)
 obtain ⟨inf,zv,hi,SU,dX,VK,Sa⟩:∃ inf zv,P.info? el=some inf/\inf.zero=some zv/\bM ι z zv/\inf.size=e/\inf.bytes=b:=by
  unfold zeroOf at hz
  unfold cN at hn
  unfold wo at hby
  cases hi:P.info? el with
  | none=>rw [hi] at hz;cases hz
  | some inf =>
    rw [hi] at hz hn hby
    simp only [Option.bind_some] at hz
    cases SU:inf.zero with
    | none=>rw [SU] at hz;cases hz
    | some v =>
      rw [SU] at hz
      exact ⟨inf,v,rfl,SU,nj hz,by simpa using hn,by simpa using hby⟩
 obtain ⟨kn,hkn⟩:∃ kn,P.underlying u=some (.int kn):=by
  unfold rU at hu
  split at hu
  · rename_i k' PW;exact ⟨k',PW⟩
  · cases hu
 have hmb:(k+m)<=(k+m)*b:=Nat.le_mul_of_pos_right _ (Nat.pos_of_ne_zero hb0)
 have Me:m*b<=(k+m)*b:=Nat.mul_le_mul_right _ (by omega)
 have hfit:=growslice_fits (bytes:=b) hc va
 have hrun:=Lib.run_append_grow_zeros (P:=P) w t u ty el inf zv .i64 kn ht hkn hi SU (some ⟨L.b,L.base+o,none⟩) k c old (by rw [VK];simpa [Builtin.firstCells] using ho) m h0 (by omega) hc (by omega) (by rw [Sa];omega) (by rw [Sa];exact hfit)
 have zW:=bM.cells dX
 have Hx:=aL zW
 obtain ⟨ds,AY,DQ⟩:=jG (cs:=zv.cells.toList) (by simpa using zW) m e hzl
 have hds:Builtin.zeroCells zv.cells m=ds.toArray:=by
  unfold Builtin.zeroCells
  rw [← AY]
  have:zv.cells.size=e:=by rw [← hzl,Hx,Array.length_toList]
  rw [this,Array.toArray_toList]
 obtain ⟨G,hG⟩:∃ G,G=grownCap w (k+m) c el:=⟨_,rfl⟩
 have Z8:k+m<=G:=by rw [hG];exact grownCap_ge w _ _ _
 rw [← hG,hds] at hrun
 obtain ⟨more,hme,Un,hone⟩:∃ more:Array Value,more=Builtin.zeroCells zv.cells (G-(k+m))/\more.size=(G-(k+m))*z.cells.length/\∀ v∈more.toList,cB v=true :=
  ⟨_,rfl,by simp [Builtin.zeroCells,Hx],jr (cy (bM.cells dX)) _⟩
 rw [← hme] at hrun
 have hfree:ι σ.size=none:=hf σ.size (Nat.le_refl _) (by omega)
 have hall:=cD mG DQ
 have hN:=ir (ι:=ι) (w:=w) (e:=el) hall more hone
 have ea:old.toArray++ds.toArray=(old++ds).toArray:=by simp
 rw [ea] at hrun
 refine ⟨_,_,_,hrun,jQ hN,by rw [fW];exact jc hR hfree hN,?_⟩
 refine eP (bq _ _ _) Z8 ?_
 show 0+0+G*e=(old++ds).length+more.size
 have hol:=aL mG
 have hdl:=aL DQ
 rw [vU hzl m] at hdl
 have eC:((vs.drop o).take (k*e)).length=k*e:=by simp;omega
 rw [Un,hzl,List.length_append,← hol,eC,← hdl,← Nat.add_mul,← Nat.add_mul]
 simp only [Nat.zero_add]
 congr 1;omega
theorem Db {t u ty el:TypeId} {e b:Nat} {z:V} {s x:T} {us ux:Value} {r:T} {τ:St} (ht:P.underlying t=some (.slice el)) (hn:cN P el=some e) (hby:wo P el=some b) (hz:zeroOf P el=some z)
 (hzl:z.cells.length=e) (hu:rU P u=true) (hb0:b≠0) (hR:Rel ι σ.get w) (wf:σ.wf) (hf:gR ι σ.size τ.size) (hs:aJ ι s us) (hx:aJ ι x ux) (h:kQ e b z.cells s x σ=some (r,τ)) :
 ∃ κ v w',(Builtin.append_ #[t,u] ty #[us,ux]).run P w = .ok v w'/\Ext ι σ w κ τ w'/\Rel κ τ.get w'/\aJ κ r v/\τ.wf:=by
 unfold kQ at h
 split at h
 · rename_i n
   split at h
   · rename_i hc
     obtain ⟨Se,va,AZ⟩:=hc
     cases h
     simp only [aJ,bM,bb] at hs hx
     subst hs hx
     obtain ⟨i,hi,hib⟩:=tH (P:=P) (w:=w) hby
     have hi':∀ w',(typeInfo el).run P w' = .ok i w':=by
      intro w'
      obtain ⟨i',h1,_⟩:=tH (P:=P) (w:=w') hby
      have:P.info? el=some i:=by
       simp only [typeInfo,run_bind,program,Sem.run] at hi
       cases hx:P.info? el with
       | none=>rw [hx] at hi;simp [stuck,Sem.run] at hi
       | some k=>rw [hx] at hi;simp only [run_pure] at hi;cases hi;rfl
      simp [typeInfo,run_bind,run_pure,program,Sem.run,this]
     have Wr:∃ k,P.underlying u=some (.int k):=by
      unfold rU at hu
      split at hu
      · rename_i k PW;exact ⟨k,PW⟩
      · cases hu
     obtain ⟨k,hd⟩:=Wr
     obtain ⟨m,hm⟩:∃ m:Nat,n=m:=⟨n.toNat,by omega⟩
     subst hm
     rw [Int.toNat_natCast] at va ⊢
     have hm0:0<m:=by omega
     have aan:m<=140737488355328:=Nat.le_trans (Nat.le_mul_of_pos_right m (Nat.pos_of_ne_zero hb0)) va
     have hw:IntKind.i64.wrap (m:Int)=(m:Int):=by
      unfold IntKind.wrap
      simp [IntKind.signed,IntKind.bits]
      omega
     have hgrow:=growslice_fits (bytes:=b) (show 0<0+m by omega) (by simpa using va)
     rw [Nat.zero_add] at hgrow
     have xS:∀ w',∃ zv,(zeroValue el).run P w' = .ok zv w'/\bM ι z zv:=fun w'=>fD (P:=P) (w:=w') (ι:=ι) hz
     obtain ⟨zv,DV,dX⟩:=xS { w with drawn:=w.drawn+1 }
     have zW:=bM.cells dX
     have Hx:=aL zW
     obtain ⟨ds,AY,DQ⟩:=jG (cs:=zv.cells.toList) (by simpa using zW) m e hzl
     have hds:Builtin.zeroCells zv.cells m=ds.toArray:=by
      unfold Builtin.zeroCells
      rw [← AY]
      have:zv.cells.size=e:=by rw [← hzl,Hx,Array.length_toList]
      rw [this,Array.toArray_toList]
     let c:=m+(w.tape w.drawn (.appendCap m 0 el))%(2 ^ 63-m)
     have hch:(choose (.appendCap m 0 el)).run P w = .ok c { w with drawn:=w.drawn+1 }:=by
      simp only [choose,Sem.run,Question.forced,Bool.false_eq_true,if_false,Question.cut,c]
     have kW:∃ more:Array Value,more=Builtin.zeroCells zv.cells (c-m)/\more.size=(c-m)*z.cells.length/\∀ v∈more.toList,cB v=true:=⟨_,rfl,by simp [Builtin.zeroCells,Hx],jr (cy (bM.cells dX)) _⟩
     obtain ⟨more,hme,Un,hone⟩:=kW
     have hcm:m<=c:=by simp only [c];omega
     have Si:¬ ((m:Int)*i.bytes>2 ^ 48):=by
      have:(m:Int)*(i.bytes:Int)=((m*b:Nat):Int):=by rw [hib];push_cast;rfl
      rw [this]
      omega
     have Hl:¬ (((0+m:Nat):Int)>IntKind.i64.max):=by
      show ¬ (((0+m:Nat):Int)>9223372036854775807)
      omega
     have Hm:¬ (Builtin.nextslicecap m 0*i.bytes>2 ^ 48):=by rw [hib];omega
     have hsz:=hn
     have VS:¬ (m*e=0):=Nat.mul_ne_zero (by omega) AZ
     have hrun:(Builtin.append_ #[t,u] ty #[.slice none 0 0,.int .i64 m]).run P w =
      .ok (.slice (some ⟨w.heap.size,0,none⟩) m c) { w with drawn:=w.drawn+1,heap:=w.heap.push (.cells (ds.toArray++more) el (0,0)) }:=by
      have hl0:¬ ((m:Int)<0):=by omega
      have hle:¬ (0+m<=0):=by omega
      simp only [Builtin.append_,run_bind,run_pure,aN ht,aN hd,cQ hn,List.getElem?_toArray,List.getElem?_cons_zero,List.getElem?_cons_succ,if_true,asInt,asIntOf,hw,if_neg hl0,hi',if_neg Si,Int.toNat_natCast,if_neg hle]
      rw [if_neg (by rintro ⟨h',_⟩;exact Hl h')]
      simp only [run_bind,hi',Nat.zero_add]
      rw [if_neg Hm]
      simp only [run_bind,run_pure,hch,hi',run_askRoom,Builtin.firstCells,Bool.not_true,Bool.false_eq_true,if_false,if_neg VS,DV,hds,newRow,newObj,Sem.run,← hme]
      simp
     have hfree:ι σ.size=none:=hf σ.size (Nat.le_refl _) (by simp)
     have hN:=ir (ι:=ι) (w:=w) (e:=el) DQ more hone
     refine ⟨_,_,_,hrun,jQ hN,by rw [fW];exact jc hR hfree hN,?_,St.bn wf _⟩
     refine eP (bq _ _ _) hcm ?_
     show 0+0+c*e=ds.length+more.size
     have hdl:=aL DQ
     rw [Un,hzl,← hdl]
     have:(dc m z.cells).length=m*e:=by
      have:∀ k,(dc k z.cells).length=k*e:=by
       intro k
       induction k with
       | zero=>simp [dc]
       | succ k ih=>simp only [dc,List.replicate_succ,List.flatten_cons,List.length_append] at ih ⊢;rw [ih,hzl,Nat.add_mul];omega
      exact this m
     rw [this,← Nat.add_mul]
     simp only [Nat.zero_add]
     congr 1
     omega
   · cases h
 · rename_i i o k c n
   split at h
   · rename_i vs hb
     split at h
     · rename_i hc
       obtain ⟨h0,hkc,hc,va,AZ,hvs⟩:=hc
       cases h
       simp only [aJ,bM,bb] at hx
       subst hx
       obtain ⟨m,hm⟩:∃ m:Nat,n=m:=⟨n.toNat,by omega⟩
       subst hm
       rw [Int.toNat_natCast] at *
       obtain ⟨κ,v,w',h1,h2,h3,h4⟩:=AU (P:=P) (ty:=ty) ht hn hby hz hzl hu hb0 hR wf (by simpa using hf) hs hb (by omega) hc va AZ hvs
       exact ⟨κ,v,w',h1,h2,h3,h4,St.bn wf _⟩
     · cases h
   · cases h
 · cases h
theorem M3 {o:Oper} {ev:Operand->T} {ρ:Operand->Value} {t:T} {τ:St} (hR:Rel ι σ.get w) (wf:σ.wf) (hf:gR ι σ.size τ.size) (cM:∀ x∈o.op.operands,aJ ι (ev x) (ρ x)) (h:Ab P o.op ev σ=some (t,τ)) :
 Rv P ι σ w ρ o t τ:=by
 obtain ⟨dst,op,ty,pos,after,guard⟩:=o
 simp only at cM h
 have two:∀ {α:Type} {l:Array α} {x y:α},l.toList=[x,y]->l = #[x,y]:=by
  intro α l x y e;rw [← Array.toArray_toList (xs:=l),e]
 have one:∀ {α:Type} {l:Array α} {x:α},l.toList=[x]->l = #[x]:=by
  intro α l x e;rw [← Array.toArray_toList (xs:=l),e]
 cases op with
 | store tt' a x =>
   simp only [Ab] at h
   split at h
   · rename_i n hn
     obtain ⟨w',h1,h2,h3,rfl,h5⟩:=Ak (P:=P) (t:=tt') hn hR wf (cM a (by simp [Op.operands])) (cM x (by simp [Op.operands])) h
     exact ⟨ι,w',.skip,undef,by simp only [execOp,run_bind,h1,run_pure],.inr ⟨rfl,rfl⟩,h2,h3,gF,h5⟩
   · cases h
 | convert s d x =>
   simp only [Ab] at h
   split at h
   · rename_i e' e hs hd
     split at h
     · rename_i hsd he
       obtain ⟨a,n,c,w',hx,h1,h2,h3,h4,h5⟩:=Dc (P:=P) hR wf (cM x (by simp [Op.operands])) h
       refine ⟨ι,w',.value (ρ x),ρ x,?_,.inl rfl,h2,h3,h4,h5⟩
       simp only [execOp,run_bind,Go.convert,aN hs,aN hd,hx,hsd,aN he,h1,run_pure]
     · cases h
   · cases h
 | mapUpdate tm m k x =>
   simp only [Ab] at h
   split at h
   · rename_i kt et hu
     split at h
     · rename_i kk hkk
       split at h
       · rename_i hik
         obtain ⟨w',h1,h2,h3,rfl,h5⟩:=pQ (P:=P) hu hkk hik hR wf (cM m (by simp [Op.operands])) (cM k (by simp [Op.operands])) (cM x (by simp [Op.operands])) h
         exact ⟨ι,w',.skip,undef,by simp only [execOp,run_bind,h1,run_pure],.inr ⟨rfl,rfl⟩,h2,h3,gF,h5⟩
       · cases h
     · cases h
   · cases h
 | insert tm m k x =>
   simp only [Ab] at h
   split at h
   · rename_i kt et hu
     split at h
     · rename_i kk hkk
       split at h
       · rename_i hik
         obtain ⟨w',h1,h2,h3,rfl,h5⟩:=pQ (P:=P) hu hkk hik hR wf (cM m (by simp [Op.operands])) (cM k (by simp [Op.operands])) (cM x (by simp [Op.operands])) h
         exact ⟨ι,w',.skip,undef,by simp only [execOp,run_bind,h1,run_pure],.inr ⟨rfl,rfl⟩,h2,h3,gF,h5⟩
       · cases h
     · cases h
   · cases h
 | call c =>
   obtain ⟨callee,args,argTypes⟩:=c
   cases callee with
   | value f=>simp [Ab] at h
   | invoke r n=>simp [Ab] at h
   | builtin b =>
     have ha:∀ x∈args,aJ ι (ev x) (ρ x):=fun x hx=>cM x (by simp [Op.operands,Call.operands,hx])
     cases b<;>first | (simp [Ab] at h;done) | skip
     · simp only [Ab] at h
       split at h
       · rename_i s x t' u' hx' Ba
         have ea:=two hx';have et:=two Ba;subst ea et
         split at h
         · rename_i el hu
           split at h
           · rename_i n b z hn hb hz
             split at h
             · rename_i hc
               obtain ⟨κ,v,w',h1,h2,h3,h4,h5⟩:=x5 (P:=P) (ty:=ty) hu hn hb hz hc.2.2 hc.1 hc.2.1 hR wf hf (ha s (by simp)) (ha x (by simp)) h
               refine ⟨κ,w',.value v,v,?_,.inl rfl,h2,h3,h4,h5⟩
               simp [execOp,resolve,invoke,Go.builtin,run_bind,run_pure,h1]
             · split at h
               · rename_i hc
                 obtain ⟨κ,v,w',h1,h2,h3,h4,h5⟩:=Db (P:=P) (ty:=ty) hu hn hb hz hc.2.2 hc.1 hc.2.1 hR wf hf (ha s (by simp)) (ha x (by simp)) h
                 refine ⟨κ,w',.value v,v,?_,.inl rfl,h2,h3,h4,h5⟩
                 simp [execOp,resolve,invoke,Go.builtin,run_bind,run_pure,h1]
               · cases h
           · cases h
         · cases h
       · cases h
     · simp only [Ab] at h
       split at h
       · rename_i x t' hx' Ba
         have ea:=one hx';have et:=one Ba;subst ea et
         split at h
         · rename_i el hu
           split at h
           · rename_i n z hn hz
             split at h
             · rename_i hzl
               obtain ⟨w',h1,h2,h3,rfl,h5⟩:=Aj (P:=P) (ty:=ty) hu hn hz hzl hR wf (ha x (by simp)) h
               refine ⟨ι,w',.value undef,undef,?_,.inl rfl,h2,h3,gF,h5⟩
               simp [execOp,resolve,invoke,Go.builtin,run_bind,run_pure,h1]
             · cases h
           · cases h
         · cases h
       · cases h
     · simp only [Ab] at h
       split at h
       · rename_i d x t' u' hx' Ba
         have ea:=two hx';have et:=two Ba;subst ea et
         split at h
         · rename_i el hu
           split at h
           · rename_i n hn
             obtain ⟨v,w',h1,h2,h3,h4,h5⟩:=C9 (P:=P) (u:=u') (ty:=ty) hu hn hR wf (ha d (by simp)) (ha x (by simp)) h
             refine ⟨ι,w',.value v,v,?_,.inl rfl,h2,h3,h4,h5⟩
             simp [execOp,resolve,invoke,Go.builtin,run_bind,run_pure,h1]
           · cases h
         · cases h
       · cases h
     · simp only [Ab] at h
       split at h
       · rename_i m k t' u' hx' Ba
         have ea:=two hx';have et:=two Ba;subst ea et
         split at h
         · rename_i kt et hu
           split at h
           · rename_i kk hkk
             split at h
             · rename_i hik
               obtain ⟨w',h1,h2,h3,rfl,h5⟩:=x9 (P:=P) (t':=u') (ty:=ty) hu hkk hik hR wf (ha m (by simp)) (ha k (by simp)) h
               refine ⟨ι,w',.value undef,undef,?_,.inl rfl,h2,h3,gF,h5⟩
               simp [execOp,resolve,invoke,Go.builtin,run_bind,run_pure,h1]
             · cases h
           · cases h
         · cases h
       · cases h
 | _=>simp [Ab] at h
end
abbrev ak:=FuncId->List T->St->Option (T×St)
def eF (P:Program) (f:FuncId):Bool :=
 match P.funcs[f]? with
 | some fn=>fn.body.isSome&&fn.name != "runtime.NumGoroutine"
 | none=>false
def yg (p:Nat×Nat):T:=Z (.ptr p.1 p.2)
def vp (fn:Func) (n:String):Option (Array Value->Sem Value) :=
 (Extern.allGenericRows.lookup n).map (· fn.targs fn.params fn.resultTypes) <|> (Extern.allTypedRows.lookup n).map (· fn.params fn.resultTypes) <|> Extern.allRows.lookup n
def Ix (P:Program) (f:FuncId):Bool :=
 match P.funcs[f]? with
 | some fn => !(fn.name == "runtime.NumGoroutine")&&fn.body.isNone&&(Extern.findNext fn).isNone&&(vp fn fn.name).isNone&&decide (fn.origin = "slices.overlaps")&&(match fn.params[0]? with
   | some t=>match P.underlying t with
     | some (.slice e)=>(cN P e).isSome
     | _=>false
   | none=>false)
 | none=>false
def Cd (P:Program) (f:FuncId) (ts:List T) (g:Mem):Option T :=
 match ts with
 | [.v (.s (.sl i _ _ _)),.v (.s (.sl j _ _ _))]=>match g i,g j with
   | some (.cells true _),some (.cells true _)=>match Nat.beq i j with
     | true=>none
     | false=>match Ix P f with
       | true=>some (Z (.bool false))
       | false=>none
   | _,_=>none
 | _=>none
def tR (P:Program) (f:FuncId) (ts:List T) (σ:St):Option (T×St):=match Cd P f ts σ.get with
 | some t=>some (t,σ)
 | none=>none
def zh (P:Program) (aa:ak) (op:Op) (ev:Operand->T) (σ:St):Option (T×St) :=
 match op with
 | .call { callee := .value f,args,.. }=>match ev f with
   | .v (.s (.iP g fJ))=>if eF P g then aa g (args.toList.map ev++fJ.map yg) σ else tR P g (args.toList.map ev++fJ.map yg) σ
   | _=>none
 | op=>Ab P op ev σ
structure aM (P:Program) (aa:ak):Prop where
 wf:∀ f ts σ t τ,aa f ts σ=some (t,τ)->σ.wf->τ.wf/\σ.size<=τ.size
 calls:∀ f ts σ t τ,aa f ts σ=some (t,τ)->σ.wf->∀ ι w vs,Rel ι σ.get w->gR ι σ.size τ.size->bf (aJ ι) ts vs →
  Calls P f vs.toArray w fun e u=>∃ κ v,e = .returned v/\Ext ι σ w κ τ u/\Rel κ τ.get u/\aJ κ t v
inductive K where
 | P | L | A | W
 deriving DecidableEq
def kindOf (P:Program) (op:Op):K :=
 match op with
 | .load _ _ => .L
 | .lookup _ _ _ _ => .L
 | .convert s d _=>match P.underlying s,P.underlying d with
   | some (.slice _),some .string => .L
   | some .string,some (.slice _) => .A
   | some (.slice _),some (.slice _) => .W
   | _,_ => .P
 | .alloc _ => .A
 | .box _ _ => .A
 | .buildSlice _ _ _ => .A
 | .makeMap _ _ => .A
 | .makeSlice _ _ _ => .A
 | .store _ _ _ => .W
 | .mapUpdate _ _ _ _ => .W
 | .insert _ _ _ _ => .W
 | .call { callee := .builtin .len,argTypes,.. }=>match argTypes.toList with
   | [t]=>match P.underlying t with
     | some (.map _ _) => .L
     | _ => .P
   | _ => .P
 | .call { callee := .builtin .cap,.. } => .P
 | .call { callee := .builtin .min,.. } => .P
 | .call { callee := .builtin .max,.. } => .P
 | .call _ => .W
 | _ => .P
def cV (env:List T) (dst:Option Tmp) (t:T):List T :=
 match dst with
 | some d=>env.set d t
 | none=>env
def cL (ops:List Oper) (env:List T) (o:Oper):Option Bool :=
 match o.guard with
 | none=>some true
 | some (j,want)=>match ops[j]? with
   | none=>some false
   | some oj=>match oj.dst with
     | none=>some false
     | some d=>match env.getD d .any with
       | .any=>none
       | .v (.s .any)=>none
       | .v (.s (.bool b))=>some (b == want)
       | _=>some false
def step (P:Program) (aa:ak) (ops:List Oper) (o:Oper) (s:List T×St):Option (List T×St) :=
 match cL ops s.1 o with
 | none=>none
 | some false=>some (cV s.1 o.dst tt,s.2)
 | some true=>match kindOf P o.op with
   | .P=>match nU P o.op (oC s.1) with
     | some t=>some (cV s.1 o.dst t,s.2)
     | none=>none
   | .L=>match qJ P o.op (oC s.1) s.2.get with
     | some t=>some (cV s.1 o.dst t,s.2)
     | none=>none
   | .A=>match xe P o.op (oC s.1) with
     | some (b,f)=>some (cV s.1 o.dst (f s.2.size),s.2.push b)
     | none=>none
   | .W=>match zh P aa o.op (oC s.1) s.2 with
     | some (t,τ)=>some (cV s.1 o.dst t,τ)
     | none=>none
def gN (P:Program) (aa:ak) (ops:List Oper):List Oper->List T×St->Option (List T×St)
 | [],s=>some s
 | o::r,s=>match step P aa ops o s with
   | some s'=>gN P aa ops r s'
   | none=>none
section
variable {P:Program} {aa:ak} {ι:bP} {w:World} {σ:St}
theorem Qi {op:Op} {ev:Operand->T} {t:T} {τ:St} (wf:σ.wf) (h:Ab P op ev σ=some (t,τ)):τ.wf/\σ.size<=τ.size:=by
 have gK:∀ {i:Nat} {b b':dO},σ.get i=some b->(σ.set i b').wf/\σ.size<=(σ.set i b').size:=fun hb=>⟨St.wf_set wf (wf.lt hb) _,Nat.le_refl _⟩
 have uZ:∀ b:dO,(σ.push b).wf/\σ.size<=(σ.push b).size:=fun b=>⟨St.bn wf b,by simp⟩
 have hsp:∀ {i:Nat} {b b' c:dO},σ.get i=some b->((σ.set i b').push c).wf/\σ.size<=((σ.set i b').push c).size:=fun hb=>⟨St.bn (St.wf_set wf (wf.lt hb) _) _,by simp⟩
 have hid:σ.wf/\σ.size<=σ.size:=⟨wf,Nat.le_refl _⟩
 have h1:∀ n a x,aw n a x σ=some (t,τ)->τ.wf/\σ.size<=τ.size:=by
  intro n a x h
  unfold aw at h
  (repeat' split at h)<;>first | (cases h;done) | (cases h;exact gK ‹_›)
 have h2:∀ m k x,gV m k x σ=some (t,τ)->τ.wf/\σ.size<=τ.size:=by
  intro n a x h
  unfold gV at h
  (repeat' split at h)<;>first | (cases h;done) | (cases h;exact gK ‹_›)
 have h3:∀ m k,jK m k σ=some (t,τ)->τ.wf/\σ.size<=τ.size:=by
  intro n a h
  unfold jK at h
  (repeat' split at h)<;>first | (cases h;done) | (cases h;first | exact hid | exact gK ‹_›)
 have h4:∀ e b s x,aH e b s x σ=some (t,τ)->τ.wf/\σ.size<=τ.size:=by
  intro e b s x h
  unfold aH at h
  (repeat' split at h)<;>first | (cases h;done) | (cases h;first | exact hid | exact uZ _ | exact gK ‹_› | exact hsp ‹_›)
 have h7:∀ e b z s x,kQ e b z s x σ=some (t,τ)->τ.wf/\σ.size<=τ.size:=by
  intro e b z s x h
  unfold kQ at h
  (repeat' split at h)<;>first | (cases h;done) | (cases h;exact uZ _)
 have h5:∀ e d x,fM e d x σ=some (t,τ)->τ.wf/\σ.size<=τ.size:=by
  intro e d x h
  unfold fM at h
  (repeat' split at h)<;>first | (cases h;done) | (cases h;first | exact hid | exact gK ‹_›)
 have h8:∀ e z x,kP e z x σ=some (t,τ)->τ.wf/\σ.size<=τ.size:=by
  intro e z x h
  unfold kP at h
  (repeat' split at h)<;>first | (cases h;done) | (cases h;first | exact hid | exact gK ‹_›)
 have h6:∀ x,ya x σ=some (t,τ)->τ.wf/\σ.size<=τ.size:=by
  intro x h
  unfold ya at h
  (repeat' split at h)<;>first | (cases h;done) | (cases h;exact gK ‹_›)
 unfold Ab at h
 (repeat' split at h)<;>first | (cases h;done) | exact h1 _ _ _ h | exact h2 _ _ _ h | exact h3 _ _ h | exact h4 _ _ _ _ h | exact h5 _ _ _ h | exact h6 _ h | exact h8 _ _ _ h | exact h7 _ _ _ _ _ h
theorem M0 (hs:aM P aa) {op:Op} {ev:Operand->T} {t:T} {τ:St} (wf:σ.wf) (h:zh P aa op ev σ=some (t,τ)):τ.wf/\σ.size<=τ.size:=by
 unfold zh at h
 split at h
 · split at h
   · split at h
     · exact hs.wf _ _ _ _ _ h wf
     · unfold tR at h
       split at h
       · cases h;exact ⟨wf,Nat.le_refl _⟩
       · cases h
   · cases h
 · exact Qi wf h
theorem lL {o:Oper} {a:Act} {nx:Next} {v:Value} {u:World} {K':Act->World->Prop} {Q:Exit->Act->World->Prop} (h:(execOp a.eval o).run P w = .ok nx u) (hn:nx = .value v\/nx = .skip/\v=undef)
 (hK:K' (a.put o.dst v) u):o.wp P a w K' Q:=by
 unfold Oper.wp
 rw [h]
 rcases hn with rfl | ⟨rfl,rfl⟩
 · exact hK
 · exact hK
theorem wx {f:FuncId} {args:Array Value} (h:eF P f=true):(callFunc f args).run P w = .ok (.enter f args) w:=by
 unfold eF at h
 cases hf:P.funcs[f]? with
 | none=>rw [hf] at h;cases h
 | some fn =>
   rw [hf] at h
   simp only [Bool.and_eq_true,bne_iff_ne,ne_eq] at h
   have hb:fn.body.isNone=false:=by
    cases hb:fn.body with
    | none=>rw [hb] at h;simp at h
    | some c=>rfl
   simp only [callFunc,run_bind,program,Sem.run,hf]
   rw [if_neg (by simpa using h.2),if_neg (by simp [hb])]
   rfl
theorem Dd {f:FuncId} {ts:List T} {t:T} {vs:List Value} (hR:Rel ι σ.get w) (hts:bf (aJ ι) ts vs) (h:Cd P f ts σ.get=some t) :
 ∃ v,(callFunc f vs.toArray).run P w = .ok (.value v) w/\aJ ι t v:=by
 unfold Cd at h
 split at h
 · rename_i i o n c j p m q
   split at h
   · rename_i xs ys hi hj
     split at h
     · cases h
     · rename_i hij
       split at h
       · rename_i ho
         cases h
         cases hts with
         | cons h1 hts =>
           cases hts with
           | cons h2 hts =>
             cases hts
             obtain ⟨L,k1,hL,rfl,_⟩:=fE h1
             obtain ⟨M,k2,hM,rfl,_⟩:=fE h2
             obtain ⟨ca,ea,fa,a1,a2,a3,a4,a5⟩:=hR.blk i L _ hL hi
             obtain ⟨cb,eb,fb,b1,b2,b3,b4,b5⟩:=hR.blk j M _ hM hj
             have ha:fa.1=fa.2:=by have:=(a5 rfl).1;omega
             have hb:fb.1=fb.2:=by have:=(b5 rfl).1;omega
             have hne:L.b≠M.b:=hR.sep i j L M hL hM (by rw [hi];trivial) (by rw [hj];trivial) (fun e=>by subst e;simp at hij)
             unfold Ix at ho
             split at ho
             · rename_i fn hfn
               simp only [Bool.and_eq_true,Bool.not_eq_true',decide_eq_true_eq] at ho
               obtain ⟨⟨⟨⟨⟨o1,o2⟩,o3⟩,o4⟩,o5⟩,o6⟩:=ho
               have R8:Extern.find fn=some (Extern.SlicesOverlaps.overlaps fn.params fn.resultTypes):=by
                have e1:Extern.find fn=(vp fn fn.name <|> vp fn fn.origin):=rfl
                have e2:vp fn fn.name=none:=Option.isNone_iff_eq_none.1 o4
                have e3:vp fn "slices.overlaps"=some (Extern.SlicesOverlaps.overlaps fn.params fn.resultTypes):=by
                 unfold vp
                 have g1:Extern.allGenericRows.lookup "slices.overlaps"=none:=by kernel_rfl
                 have g2:Extern.allTypedRows.lookup "slices.overlaps"=some Extern.SlicesOverlaps.overlaps:=by kernel_rfl
                 rw [g1,g2]
                 rfl
                rw [e1,e2,o5,e3]
                rfl
               rw [run_callFunc_extern hfn o1 o2 (Option.isNone_iff_eq_none.1 o3) R8]
               split at o6
               · rename_i t0 YP
                 split at o6
                 · rename_i e he
                   obtain ⟨z,hz⟩:=Option.isSome_iff_exists.1 o6
                   have VW:∀ (b off:Nat),b=L.b\/b=M.b->w.frozen? ⟨b,off,none⟩=false:=by
                    intro b off hb'
                    rcases hb' with rfl | rfl
                    · simp only [World.frozen?,a1]
                      obtain ⟨x,y⟩:=fa
                      simp only at ha
                      subst ha
                      simp
                    · simp only [World.frozen?,b1]
                      obtain ⟨x,y⟩:=fb
                      simp only at hb
                      subst hb
                      simp
                   have hsa:w.shape? L.b=some (ea,ca.size):=by unfold World.shape?;rw [a1]
                   have hsb:w.shape? M.b=some (eb,cb.size):=by unfold World.shape?;rw [b1]
                   have hrun:(Extern.SlicesOverlaps.overlaps fn.params fn.resultTypes #[.slice (some ⟨L.b,L.base+o,none⟩) n k1,.slice (some ⟨M.b,M.base+p,none⟩) m k2]).run P w = .ok (.bool false) w:=by
                    have ur:=fun w=>cQ (P:=P) (w:=w) hz
                    have nb:(L.b != M.b)=true:=by simpa using hne
                    have nb':(L.b == M.b)=false:=by simpa using hne
                    change Sem.run P (α:=Value) (do
                     let some t:=fn.params[0]? | stuck "slices.overlaps: no parameter types"
                     let .slice elem ← underlying t | stuck "slices.overlaps: slice type expected"
                     let size ← sizeOf elem
                     match (some (⟨L.b,L.base+o,none⟩:Addr):Option Addr),(some (⟨M.b,M.base+p,none⟩:Addr):Option Addr) with
                     | some a,some b =>
                       if n=0\/m=0\/size=0 then pure (Value.bool false)
                       else if a.block != b.block&&(← frozen a)&&(← frozen b) then unsupported .addressObserved
                       else do
                        if a.block != b.block then do
                         noView a;noView b
                         if ← mayBeOne a b then return Value.bool ((← choose (.extern "sameAddr.stringBytes" 2)) == 1)
                        pure (Value.bool (a.block == b.block&&a.off<b.off+m*size&&b.off<a.off+n*size))
                     | _,_=>pure (Value.bool false)) w=_
                    by_cases h0:n=0\/m=0\/z=0
                    · simp [YP,run_underlying he,ur,h0]
                    · simp [YP,run_underlying he,ur,h0,nb,nb',frozen,noView,viewAt,mayBeOne,stringish,shape,Sem.run,hsa,hsb,VW]
                   rw [show ([Value.slice (some ⟨L.b,L.base+o,none⟩) n k1,.slice (some ⟨M.b,M.base+p,none⟩) m k2]:List Value).toArray = #[.slice (some ⟨L.b,L.base+o,none⟩) n k1,.slice (some ⟨M.b,M.base+p,none⟩) m k2] from rfl,hrun]
                   exact ⟨_,rfl,rfl⟩
                 · cases o6
               · cases o6
             · cases ho
       · cases h
   · cases h
 · cases h
theorem CP (hs:aM P aa) {o:Oper} {a:Act} {ev:Operand->T} {t:T} {τ:St} {K':Act->World->Prop} {Q:Exit->Act->World->Prop} (hR:Rel ι σ.get w) (wf:σ.wf) (hf:gR ι σ.size τ.size)
 (cM:∀ x∈o.op.operands,aJ ι (ev x) (a.eval x)) (h:zh P aa o.op ev σ=some (t,τ))
 (hK:∀ κ u v,Ext ι σ w κ τ u->Rel κ τ.get u->aJ κ t v->K' (a.put o.dst v) u):o.wp P a w K' Q:=by
 unfold zh at h
 split at h
 · rename_i f args at_ ho
   split at h
   · rename_i g fJ hg
     split at h
     · rename_i hc
       have xP:=cM f (by rw [ho];simp [Op.operands,Call.operands])
       rw [hg] at xP
       obtain ⟨cs,R7,hcs⟩:=xP
       have hargs:bf (aJ ι) (args.toList.map ev) (args.toList.map a.eval):=jw fun x hx=>cM x (by rw [ho];simp [Op.operands,Call.operands];exact .inr (by simpa using hx))
       have Hb:bf (aJ ι) (fJ.map yg) cs:=by
        clear R7 hg h
        induction hcs with
        | nil=>exact .nil
        | cons r _ ih=>exact .cons r ih
       have hall:=cD hargs Hb
       have uU:=hs.calls _ _ _ _ _ h wf ι w _ hR hf hall
       have hrun:(execOp a.eval o).run P w = .ok (.enter g (args.toList.map a.eval++cs).toArray) w:=by
        have e1:((args.map a.eval)++cs.toArray:Array Value)=(args.toList.map a.eval++cs).toArray:=by
         apply Array.toList_inj.1;simp
        simp only [execOp,ho,resolve,run_bind,R7,Deferred.ofValue,run_pure,invoke]
        rw [Array.empty_append,e1]
        exact wx hc
       unfold Oper.wp
       rw [hrun]
       refine Calls.mono uU ?_
       rintro e u ⟨κ,v,rfl,hE,oD,hT⟩
       exact hK κ u v hE oD hT
     · have xP:=cM f (by rw [ho];simp [Op.operands,Call.operands])
       rw [hg] at xP
       obtain ⟨cs,R7,hcs⟩:=xP
       have hargs:bf (aJ ι) (args.toList.map ev) (args.toList.map a.eval):=jw fun x hx=>cM x (by rw [ho];simp [Op.operands,Call.operands];exact .inr (by simpa using hx))
       have Hb:bf (aJ ι) (fJ.map yg) cs:=by
        clear R7 hg h
        induction hcs with
        | nil=>exact .nil
        | cons r _ ih=>exact .cons r ih
       have hall:=cD hargs Hb
       unfold tR at h
       split at h
       · rename_i t' Ba
         cases h
         obtain ⟨v,h1,h2⟩:=Dd (w:=w) hR hall Ba
         have hrun:(execOp a.eval o).run P w = .ok (.value v) w:=by
          have e1:((args.map a.eval)++cs.toArray:Array Value)=(args.toList.map a.eval++cs).toArray:=by
           apply Array.toList_inj.1;simp
          simp only [execOp,ho,resolve,run_bind,R7,Deferred.ofValue,run_pure,invoke]
          rw [Array.empty_append,e1]
          exact h1
         exact lL hrun (.inl rfl) (hK ι w v (Ext.refl _ _ _) hR h2)
       · cases h
   · cases h
 · obtain ⟨κ,u,nx,v,h1,h2,h3,h4,h5,_⟩:=M3 hR wf hf cM h
   exact lL h1 h2 (hK κ u v h3 h4 h5)
theorem Iq {o:Oper} {a:Act} {ev:Operand->T} {b:dO} {f:Nat->T} {K':Act->World->Prop} {Q:Exit->Act->World->Prop}
 (cM:∀ x∈o.op.operands,aJ ι (ev x) (a.eval x)) (h:xe P o.op ev=some (b,f))
 (hK:∀ L u v,ji ι w u L b->(∀ n,aJ (qL ι n L) (f n) v)->K' (a.put o.dst v) u):o.wp P a w K' Q:=by
 obtain ⟨L,v,u,h1,h2,h3⟩:=MX cM h w
 exact lL h1 (.inl rfl) (hK L u v h2 h3)
theorem It {o:Oper} {a:Act} {ev:Operand->T} {t:T} {K':Act->World->Prop} {Q:Exit->Act->World->Prop}
 (cM:∀ x∈o.op.operands,aJ ι (ev x) (a.eval x)) (h:nU P o.op ev=some t) (hK:∀ v,aJ ι t v->K' (a.put o.dst v) w):o.wp P a w K' Q:=by
 obtain ⟨v,h1,h2⟩:=MZ (w:=w) cM h
 exact lL h1 (.inl rfl) (hK v h2)
theorem Is {g:Mem} {o:Oper} {a:Act} {ev:Operand->T} {t:T} {K':Act->World->Prop} {Q:Exit->Act->World->Prop} (hR:Rel ι g w)
 (cM:∀ x∈o.op.operands,aJ ι (ev x) (a.eval x)) (h:qJ P o.op ev g=some t) (hK:∀ v,aJ ι t v->K' (a.put o.dst v) w):o.wp P a w K' Q:=by
 obtain ⟨v,h1,h2⟩:=MY hR cM h
 exact lL h1 (.inl rfl) (hK v h2)
structure gp (ι:bP) (env:List T) (tmps:Array Value):Prop where
 len:env.length<=tmps.size
 rel:∀ t,aJ ι (env.getD t .any) (tmps.getD t undef)
theorem gp.mono {κ:bP} (h:ι.le κ) {env:List T} {tmps:Array Value} (k:gp ι env tmps):gp κ env tmps:=⟨k.len,fun t=>(k.rel t).mono h⟩
theorem sI (env:List T) (d t:Nat) (x:T):(env.set d x).getD t .any=if d=t/\d<env.length then x else env.getD t .any:=by
 rw [List.getD_eq_getElem?_getD,List.getD_eq_getElem?_getD]
 by_cases e:d=t
 · subst e
   by_cases hl:d<env.length
   · rw [List.getElem?_set_self hl,if_pos ⟨rfl,hl⟩];rfl
   · rw [if_neg (by omega),List.set_eq_of_length_le (by omega)]
 · rw [List.getElem?_set_ne e,if_neg (by omega)]
theorem oX (tmps:Array Value) (d t:Nat) (v:Value):(tmps.setIfInBounds d v).getD t undef=if d=t/\d<tmps.size then v else tmps.getD t undef:=by
 rw [Array.getD_eq_getD_getElem?,Array.getD_eq_getD_getElem?]
 by_cases e:d=t
 · subst e
   by_cases hl:d<tmps.size
   · rw [Array.getElem?_setIfInBounds_self_of_lt hl,if_pos ⟨rfl,hl⟩];rfl
   · rw [if_neg (by omega)]
     have:tmps.setIfInBounds d v=tmps:=by
      apply Array.ext_getElem?
      intro j
      by_cases ej:d=j
      · subst ej
        rw [Array.getElem?_eq_none (by simp;omega),Array.getElem?_eq_none (by omega)]
      · rw [Array.getElem?_setIfInBounds_ne ej]
     rw [this]
 · rw [Array.getElem?_setIfInBounds_ne e,if_neg (by omega)]
theorem gp.put {env:List T} {a:Act} {t:T} {v:Value} (h:gp ι env a.tmps) (dst:Option Tmp) (ht:aJ ι t v):gp ι (cV env dst t) (a.put dst v).tmps:=by
 cases dst with
 | none=>exact h
 | some d =>
   refine ⟨?_,?_⟩
   · simp only [cV,Act.put,List.length_set,Array.size_setIfInBounds];exact h.len
   · intro k
     simp only [cV,Act.put]
     rw [sI,oX]
     by_cases e:d=k
     · subst e
       by_cases hl:d<env.length
       · rw [if_pos ⟨rfl,hl⟩,if_pos ⟨rfl,Nat.lt_of_lt_of_le hl h.len⟩];exact ht
       · rw [if_neg (fun h=>hl h.2)]
         have:env.getD d .any = .any:=by rw [List.getD_eq_getElem?_getD,List.getElem?_eq_none (Nat.le_of_not_lt hl)];rfl
         rw [this];trivial
     · rw [if_neg (fun h=>e h.1),if_neg (fun h=>e h.1)];exact h.rel k
theorem pN {ops:Array Oper} {env:List T} {tmps:Array Value} {o:Oper} {b:Bool} (h:cL ops.toList env o=some b)
 (hg:∀ j want oj d,o.guard=some (j,want)->ops[j]? = some oj->oj.dst=some d->aJ ι (env.getD d .any) (tmps.getD d undef)):Region.wanted o (yielded ops tmps)=b:=by
 unfold cL at h
 unfold Region.wanted
 split at h
 · rename_i hgd;rw [hgd];cases h;rfl
 · rename_i j want hgd
   rw [hgd]
   simp only
   split at h
   · rename_i hj
     cases h
     rw [Array.getElem?_toList] at hj
     simp [yielded,hj]
   · rename_i oj hj
     rw [Array.getElem?_toList] at hj
     split at h
     · rename_i hd
       cases h
       simp [yielded,hj,hd]
     · rename_i d hd
       have hr:=hg j want oj d hgd hj hd
       have key:∀ x:Value,(∀ q,x ≠ .bool q)->tmps.getD d undef=x->yielded ops tmps j=none:=by
        intro x hx he
        simp only [yielded,hj,Option.bind_some,hd]
        rw [Array.getD_eq_getD_getElem?] at he
        cases ht:tmps[d]? with
        | none=>rfl
        | some y =>
          rw [ht] at he
          simp only [Option.getD_some] at he
          subst he
          cases y<;>first | rfl | exact (hx _ rfl).elim
       split at h
       · cases h
       · cases h
       · rename_i q he
         cases h
         rw [he] at hr
         simp only [aJ,bM,bb] at hr
         have:yielded ops tmps j=some q:=by
          simp only [yielded,hj,Option.bind_some,hd]
          rw [Array.getD_eq_getD_getElem?] at hr
          cases ht:tmps[d]? with
          | none=>rw [ht] at hr;cases hr
          | some y=>rw [ht] at hr;simp only [Option.getD_some] at hr;subst hr;rfl
         rw [this]
         cases q<;>cases want<;>rfl
       · rename_i h1 h0 h2
         cases h
         generalize SN:env.getD d .any=x at hr h0 h1 h2
         have hnb:∀ q,tmps.getD d undef ≠ .bool q:=by
          intro q hq
          rw [hq] at hr
          cases x with
          | any=>exact h1 rfl
          | eD l=>obtain ⟨vs,e,_⟩:=hr;cases e
          | v y=>cases y with
            | agg l=>obtain ⟨vs,e,_⟩:=hr;cases e
            | s z =>
              cases z with
              | bool b=>exact h2 b rfl
              | int k n=>cases hr
              | str l=>obtain ⟨_,e,_⟩:=hr;cases e
              | ptr i o=>obtain ⟨_,_,e⟩:=hr;cases e
              | bU=>cases hr
              | sl i o n c=>obtain ⟨_,_,_,e,_⟩:=fE hr;cases e
              | emp i e=>obtain ⟨_,_,_,_,e,_⟩:=hr;cases e
              | az=>cases hr
              | map i=>obtain ⟨_,_,e⟩:=hr;cases e
              | mz=>cases hr
              | iP f c=>obtain ⟨_,e,_⟩:=hr;cases e
              | uw=>cases hr
              | iH=>cases hr
              | EH t i n=>obtain ⟨_,_,_,_,_,e⟩:=hr;cases e
              | buf q i n=>obtain ⟨_,_,_,_,_,_,_,_,e⟩:=hr;cases e
              | any=>exact h0 rfl
         rw [key _ hnb rfl]
         cases want<;>rfl
end
section
variable {P:Program} {aa:ak}
theorem rD (hs:aM P aa) {ops:List Oper} {o:Oper} {s s':List T×St} (h:step P aa ops o s=some s') (wf:s.2.wf):s'.2.wf/\s.2.size<=s'.2.size:=by
 unfold step at h
 split at h
 · cases h
 · cases h;exact ⟨wf,Nat.le_refl _⟩
 · split at h
   · split at h
     · cases h;exact ⟨wf,Nat.le_refl _⟩
     · cases h
   · split at h
     · cases h;exact ⟨wf,Nat.le_refl _⟩
     · cases h
   · split at h
     · cases h;exact ⟨St.bn wf _,by simp⟩
     · cases h
   · split at h
     · rename_i t τ hw;cases h;exact M0 hs wf hw
     · cases h
theorem pL (hs:aM P aa) {ops:List Oper}:∀ {l:List Oper} {s s':List T×St},gN P aa ops l s=some s'->s.2.wf->s'.2.wf/\s.2.size<=s'.2.size:=by
 intro l
 induction l with
 | nil=>intro s s' h wf;cases h;exact ⟨wf,Nat.le_refl _⟩
 | cons o l ih =>
   intro s s' h wf
   simp only [gN] at h
   split at h
   · rename_i s1 h1
     obtain ⟨w1,z1⟩:=rD hs h1 wf
     obtain ⟨w2,z2⟩:=ih h w1
     exact ⟨w2,Nat.le_trans z1 z2⟩
   · cases h
theorem put_defers (a:Act) (d:Option Tmp) (v:Value):(a.put d v).defers=a.defers:=by cases d<;>rfl
theorem Nq (hs:aM P aa) {ops:Array Oper} {i:Nat} {o:Oper} {env env':List T} {σ τ:St} {ι:bP} {a:Act} {w:World} {K':Act->World->Prop} {Q:Exit->Act->World->Prop}
 (hi:ops[i]? = some o) (h:step P aa ops.toList o (env,σ)=some (env',τ)) (hE:gp ι env a.tmps) (hR:Rel ι σ.get w) (wf:σ.wf) (hf:gR ι σ.size τ.size)
 (hK:∀ κ u a',a'.defers=a.defers->gp κ env' a'.tmps->Ext ι σ w κ τ u->Rel κ τ.get u->K' a' u):wpOp P ops Q i K' a w:=by
 unfold wpOp
 rw [hi]
 simp only
 unfold step at h
 have cM:∀ x∈o.op.operands,aJ ι (oC env x) (a.eval x):=fun x _=>Cf hE.rel x
 split at h
 · cases h
 · rename_i hw
   have hw':=pN hw (fun j want oj d _ _ _=>hE.rel d)
   rw [hw']
   cases h
   simp only [Bool.false_eq_true,if_false]
   exact hK ι w _ (put_defers ..) (hE.put _ gF) (Ext.refl _ _ _) hR
 · rename_i hw
   have hw':=pN hw (fun j want oj d _ _ _=>hE.rel d)
   rw [hw']
   simp only [if_true]
   left
   split at h
   · split at h
     · rename_i t ht
       cases h
       exact It cM ht fun v hv=>hK ι w _ (put_defers ..) (hE.put _ hv) (Ext.refl _ _ _) hR
     · cases h
   · split at h
     · rename_i t ht
       cases h
       exact Is hR cM ht fun v hv=>hK ι w _ (put_defers ..) (hE.put _ hv) (Ext.refl _ _ _) hR
     · cases h
   · split at h
     · rename_i b f hb
       cases h
       refine Iq (w:=w) cM hb fun L u v hN hT => ?_
       have hfree:ι σ.size=none:=hf σ.size (Nat.le_refl _) (by simp)
       refine hK _ u _ (put_defers ..) ((hE.mono (wW L hfree)).put _ (hT σ.size)) (jQ hN) ?_
       rw [fW];exact jc hR hfree hN
     · cases h
   · split at h
     · rename_i t xW hw
       cases h
       refine CP hs hR wf hf cM hw fun κ u v hX oD hT => ?_
       exact hK κ u _ (put_defers ..) ((hE.mono (hX.le hf)).put _ hT) hX oD
     · cases h
theorem BO (hs:aM P aa) {ops:Array Oper} {Q:Exit->Act->World->Prop}:∀ (l:List Oper) (k:Nat) (env env':List T) (σ τ:St) (ι:bP) (a:Act) (w:World),
 ops.toList.drop k=l->gN P aa ops.toList l (env,σ)=some (env',τ)->gp ι env a.tmps->Rel ι σ.get w->σ.wf->gR ι σ.size τ.size →
 (∀ κ u a',a'.defers=a.defers->gp κ env' a'.tmps->Ext ι σ w κ τ u->Rel κ τ.get u->Q .normal a' u)->wpOps P ops Q (List.range' k l.length) a w:=by
 intro l
 induction l with
 | nil =>
   intro k env env' σ τ ι a w hd h hE hR wf hf hK
   cases h
   simpa [wpOps] using hK ι w a rfl hE (Ext.refl _ _ _) hR
 | cons o l ih =>
   intro k env env' σ τ ι a w hd h hE hR wf hf hK
   simp only [gN] at h
   split at h
   · rename_i s1 h1
     obtain ⟨RA,σ1⟩:=s1
     obtain ⟨mB,z1⟩:=rD hs h1 wf
     obtain ⟨_,z2⟩:=pL hs h mB
     have hk:ops[k]? = some o:=by
      have:=congrArg (·[0]?) hd
      simpa using this
     have jV:ops.toList.drop (k+1)=l:=by
      have:=congrArg List.tail hd
      simpa using this
     rw [List.length_cons,List.range'_succ,wpOps_cons]
     refine Nq hs hk h1 hE hR wf (hf.sub (Nat.le_refl _) z2) fun κ u a' hda xO hX jH => ?_
     refine ih (k+1) RA env' σ1 τ κ a' u jV h xO jH mB (hf.next hX) fun TF u' Rw Vy Vj Pv G8 => ?_
     exact hK TF u' Rw (Vy.trans hda) Vj (hX.trans Pv) G8
   · cases h
theorem BI (hs:aM P aa) {id:Nat} {ops:Array Oper} {Q:Exit->Act->World->Prop} {env env':List T} {σ τ:St} {ι:bP} {a:Act} {w:World}
 (h:gN P aa ops.toList ops.toList (env,σ)=some (env',τ)) (hE:gp ι env a.tmps) (hR:Rel ι σ.get w) (wf:σ.wf) (hf:gR ι σ.size τ.size)
 (hK:∀ κ u a',a'.defers=a.defers->gp κ env' a'.tmps->Ext ι σ w κ τ u->Rel κ τ.get u->Q .normal a' u):(Code.region id ops false).wp P Q a w:=by
 refine wp_region ?_
 have:=BO hs (Q:=Q) ops.toList 0 env env' σ τ ι a w (by simp) h hE hR wf hf hK
 rw [Array.length_toList] at this
 rw [List.range_eq_range']
 exact this
end
end Go.Abs
