/-
  Several texts in one: what functions that the law reaches compute. No conditions but those named in each line.
-/
import Derived.Test.YtbohejffelipoaaGreatDoorFnsB
import Derived.Test.YtbohejffelipoaaGreatDoorFnsA
namespace Go.Proofs.YtbohejffelipoaaGreatDoor
open Go Go.Abs Go.Abs.F
set_option linter.unusedVariables false
structure bA where
 k:Int
 v:Int
 i:Int
 t:Int
 f:Int
 o:Int
 u:Int
 x:Bs
 deriving DecidableEq
def cE (e:bA):List S:=[.int .i64 e.k,.int .i64 e.v,.int .i64 e.i,.int .i64 e.t,.int .i64 e.f,.int .i64 e.o,.int .u32 e.u,.str e.x]
abbrev AE (e:bA):T := .v (.agg (cE e))
def bE:bA:=⟨0,0,0,0,0,0,0,[]⟩
theorem GW (e:bA):(cE e).length=8:=rfl
def pY (n:Int):Bool:=decide (1<=n)&&decide (n<=1073741824)
def cd (e:bA):Bool :=
 if e.v<0\/1073741824<e.v then false
 else if e.k=1 then decide (e.x=[])&&pY e.i&&decide (0<=e.t)&&decide (e.t<4)&&decide (0<=e.f)&&decide (e.f<e.o)&&decide (e.o<=1099511627776)
 else if e.k=2 then pY e.i&&decide (e={ bE with k:=2,v:=e.v,i:=e.i })
 else if e.k=3 then decide (0<e.v)&&decide (e={ bE with k:=3,v:=e.v })
 else if e.k=4 then decide (e.x.length<=300)&&decide (e={ bE with k:=4,v:=e.v,x:=e.x })&&decide ((fI e.x).2.1=0)
 else false
section
variable {s t:St} {x y:S} {l:Bs} {i:Nat}
theorem eqE (a b:bA):Be (.a 8 [(0,.i),(1,.i),(2,.i),(3,.i),(4,.i),(5,.i),(6,.i),(7,.s)]) (AE a) (AE b)=some (decide (a=b)):=by
 obtain ⟨a1,a2,a3,a4,a5,a6,a7,a8⟩:=a
 obtain ⟨b1,b2,b3,b4,b5,b6,b7,b8⟩:=b
 show some (decide (a1=b1)&&(decide (a2=b2)&&(decide (a3=b3)&&(decide (a4=b4)&&(decide (a5=b5)&&(decide (a6=b6)&&(decide (a7=b7)&&(decide (a8=b8)&&true))))))))=some (decide (bA.mk a1 a2 a3 a4 a5 a6 a7 a8=bA.mk b1 b2 b3 b4 b5 b6 b7 b8))
 simp only [bA.mk.injEq,Bool.and_true,Bool.decide_and]
theorem P8 (a b:bA):fT (.a 8 [(0,.i),(1,.i),(2,.i),(3,.i),(4,.i),(5,.i),(6,.i),(7,.s)]) (AE a) (AE b)=some (B (decide (a=b))):=by
 simp only [fT,eqE]
theorem Zq (a b:bA):Bn (.a 8 [(0,.i),(1,.i),(2,.i),(3,.i),(4,.i),(5,.i),(6,.i),(7,.s)]) (AE a) (AE b)=some (B (!decide (a=b))):=by
 simp only [Bn,eqE]
theorem c7 {i:Nat} {w:Bool} {e:bA} {g:Mem} (h:g i=some (.cells w (cE e))):aH 8 (Z (.ptr i 0)) g=some (AE e):=by
 simp [aH,h,cE]
theorem jB {i:Nat} {vs:List S} {e:bA} (h:s.get i=some (.cells true vs)) (hv:vs.length=8):aw 8 (Z (.ptr i 0)) (AE e) s=some (tt,s.set i (.cells true (cE e))):=by
 have hb:(V.agg (cE e)).cells.length=8/\0+8<=vs.length:=⟨rfl,by omega⟩
 simp only [aw,h,if_pos hb]
 rw [show (V.agg (cE e)).cells=cE e from rfl,eD (by rw [hv];rfl)]
theorem BD:aU (aG [.int .i64 0,.int .i64 0,.int .i64 0,.int .i64 0,.int .i64 0,.int .i64 0,.int .u32 0,.str []] [])=some (AE bE):=rfl
theorem RQ (d:Nat) (n:Int):R (d+1) 193 [I .i64 n] s=some (B (pY n),s):=by
 rw [HQ]
 unfold f193
 by_cases h:1<=n
 · simp [pY,h]
 · simp [pY,h]
theorem tW (d:Nat) (wf:s.wf) (e:bA):∃ t,R (d+8) 149 [AE e] s=some (B (cd e),t)/\Gr s t:=by
 rw [Hs]
 unfold f149
 obtain ⟨s1,hs1⟩:∃ s1,s1=s.push (.cells true (cE e)):=⟨_,rfl⟩
 have cZ:aL s (cf (AE e))=some (Z (.ptr s.size 0),s1):=by rw [hs1];rfl
 have g1:Gr s s1:=by rw [hs1];exact Gr.push wf _
 have h1:s1.get s.size=some (.cells true (cE e)):=by rw [hs1];exact St.aq _ _
 have l0:ab (Z (.ptr s.size 0)) s1.get=some (I .i64 e.k):=ai h1 rfl
 have l1:ab (Z (.ptr s.size 1)) s1.get=some (I .i64 e.v):=ai h1 rfl
 have l2:ab (Z (.ptr s.size 2)) s1.get=some (I .i64 e.i):=ai h1 rfl
 have l3:ab (Z (.ptr s.size 3)) s1.get=some (I .i64 e.t):=ai h1 rfl
 have l4:ab (Z (.ptr s.size 4)) s1.get=some (I .i64 e.f):=ai h1 rfl
 have l5:ab (Z (.ptr s.size 5)) s1.get=some (I .i64 e.o):=ai h1 rfl
 have l7:ab (Z (.ptr s.size 7)) s1.get=some (Z (.str e.x)):=ai h1 rfl
 have l8:=c7 (g:=s1.get) h1
 have EC:=RQ (s:=s1) (d+6) e.i
 simp only [Nat.add_assoc,Nat.reduceAdd] at EC
 by_cases c1:e.v<0
 · refine ⟨s1,?_,g1⟩
   have hm:cd e=false:=by simp [cd,c1]
   rw [hm]
   simp [cZ,l1,c1]
 · by_cases c2:1073741824<e.v
   · refine ⟨s1,?_,g1⟩
     have hm:cd e=false:=by simp [cd,c2]
     rw [hm]
     simp [cZ,l1,c1,c2]
   · have hv:¬ (e.v<0\/1073741824<e.v):=fun h=>h.elim c1 c2
     by_cases k1:e.k=1
     · have hm:cd e=(decide (e.x=[])&&pY e.i&&decide (0<=e.t)&&decide (e.t<4)&&decide (0<=e.f)&&decide (e.f<e.o)&&decide (e.o<=1099511627776)):=by
        unfold cd;rw [if_neg hv,if_pos k1]
       rw [hm]
       refine ⟨s1,?_,g1⟩
       by_cases d1:e.x=[]
       · cases d2:pY e.i with
         | true =>
           rw [d2] at EC
           by_cases d3:0<=e.t
           · by_cases d4:e.t<4
             · by_cases d5:0<=e.f
               · by_cases d6:e.f<e.o
                 · simp [cZ,l0,l1,l2,l3,l4,l5,l7,c1,c2,k1,d1,EC,d3,d4,d5,d6]
                 · simp [cZ,l0,l1,l2,l3,l4,l5,l7,c1,c2,k1,d1,EC,d3,d4,d5,d6]
               · simp [cZ,l0,l1,l2,l3,l4,l5,l7,c1,c2,k1,d1,EC,d3,d4,d5]
             · simp [cZ,l0,l1,l2,l3,l4,l5,l7,c1,c2,k1,d1,EC,d3,d4]
           · simp [cZ,l0,l1,l2,l3,l4,l5,l7,c1,c2,k1,d1,EC,d3]
         | false =>
           rw [d2] at EC
           simp [cZ,l0,l1,l2,l3,l4,l5,l7,c1,c2,k1,d1,EC]
       · simp [cZ,l0,l1,l2,l3,l4,l5,l7,c1,c2,k1,d1]
     · by_cases k2:e.k=2
       · have hm:cd e=(pY e.i&&decide (e={ bE with k:=2,v:=e.v,i:=e.i })):=by
          unfold cd;rw [if_neg hv,if_neg k1,if_pos k2]
         rw [hm]
         refine ⟨s1,?_,g1⟩
         have ag:aU (aG [.int .i64 0,.int .i64 0,.int .i64 0,.int .i64 0,.int .i64 0,.int .i64 0,.int .u32 0,.str []] [(0,1,(I .i64 2)),(1,1,I .i64 e.v),(2,1,I .i64 e.i)])=some (AE { bE with k:=2,v:=e.v,i:=e.i }):=rfl
         have eq:=P8 e { bE with k:=2,v:=e.v,i:=e.i }
         generalize hD:decide (e={ bE with k:=2,v:=e.v,i:=e.i })=D at *
         generalize ({ bE with k:=2,v:=e.v,i:=e.i }:bA)=e2 at *
         cases d2:pY e.i with
         | true =>
           rw [d2] at EC
           simp [cZ,l0,l1,l2,l8,c1,c2,k2,EC,ag,eq]
         | false =>
           rw [d2] at EC
           simp [cZ,l0,l1,l2,l8,c1,c2,k2,EC]
       · by_cases k3:e.k=3
         · have hm:cd e=(decide (0<e.v)&&decide (e={ bE with k:=3,v:=e.v })):=by
            unfold cd;rw [if_neg hv,if_neg k1,if_neg k2,if_pos k3]
           rw [hm]
           refine ⟨s1,?_,g1⟩
           have ag:aU (aG [.int .i64 0,.int .i64 0,.int .i64 0,.int .i64 0,.int .i64 0,.int .i64 0,.int .u32 0,.str []] [(0,1,(I .i64 3)),(1,1,I .i64 e.v)])=some (AE { bE with k:=3,v:=e.v }):=rfl
           have eq:=P8 e { bE with k:=3,v:=e.v }
           generalize hD:decide (e={ bE with k:=3,v:=e.v })=D at *
           generalize ({ bE with k:=3,v:=e.v }:bA)=e2 at *
           by_cases d1:0<e.v
           · simp [cZ,l0,l1,l8,c1,c2,k3,d1,ag,eq]
           · simp [cZ,l0,l1,l8,c1,c2,k3,d1]
         · by_cases k4:e.k=4
           · have hm:cd e=(decide (e.x.length<=300)&&decide (e={ bE with k:=4,v:=e.v,x:=e.x })&&decide ((fI e.x).2.1=0)):=by
              unfold cd;rw [if_neg hv,if_neg k1,if_neg k2,if_neg k3,if_pos k4]
             rw [hm]
             have ag:aU (aG [.int .i64 0,.int .i64 0,.int .i64 0,.int .i64 0,.int .i64 0,.int .i64 0,.int .u32 0,.str []] [(0,1,(I .i64 4)),(1,1,I .i64 e.v),(7,1,Z (.str e.x))])=some (AE { bE with k:=4,v:=e.v,x:=e.x }):=rfl
             have eq:=Zq e { bE with k:=4,v:=e.v,x:=e.x }
             generalize hD:decide (e={ bE with k:=4,v:=e.v,x:=e.x })=D at *
             generalize ({ bE with k:=4,v:=e.v,x:=e.x }:bA)=e2 at *
             by_cases d1:e.x.length<=300
             · have d1':¬ (300:Int)<(e.x.length:Int):=by omega
               cases D with
               | false =>
                 refine ⟨s1,?_,g1⟩
                 simp [cZ,l0,l1,l7,l8,c1,c2,k4,d1',ag,eq]
               | true =>
                 obtain ⟨s2,KJ,g2⟩:=wB (l:=e.x) d g1.wf (by omega)
                 obtain ⟨s3,kZ⟩:∃ s3,s3=s2.push (.cells true (cP cX)):=⟨_,rfl⟩
                 have Cs:aL s2 (bb [.int .i64 0,.int .i64 0,.int .i64 0,.int .i64 0,.int .i64 0,.int .i64 0])=some (Z (.ptr s2.size 0),s3):=by rw [kZ];rfl
                 have g3:Gr s2 s3:=by rw [kZ];exact Gr.push g2.wf _
                 have st:=mi (p:=(fI e.x).1) (s:=s3) (i:=s2.size) (vs:=cP cX) (by rw [kZ];exact St.aq _ _) rfl
                 refine ⟨s3.set s2.size (.cells true (cP (fI e.x).1)),?_,g1.trans (g2.trans ⟨St.wf_set g3.wf (by rw [kZ];simp) _,by simp;exact g3.2.1,fun b hb=>by rw [St.aj _ _ (by omega)];exact g3.2.2 b hb⟩)⟩
                 generalize R (d+7)=r at *
                 simp [cZ,l0,l1,l7,l8,c1,c2,k4,d1',d1,ag,eq,KJ,ah,Cs,st]
             · have d1':(300:Int)<(e.x.length:Int):=by omega
               refine ⟨s1,?_,g1⟩
               simp [cZ,l0,l1,l7,c1,c2,k4,d1',d1]
           · have hm:cd e=false:=by unfold cd;rw [if_neg hv,if_neg k1,if_neg k2,if_neg k3,if_neg k4]
             rw [hm]
             refine ⟨s1,?_,g1⟩
             simp [cZ,l0,l1,c1,c2,k1,k2,k3,k4]
def dY (e:bA):List Nat :=
 if e.k=1 then [e.i.toNat,e.t.toNat,e.f.toNat,e.o.toNat,e.u.toNat] else if e.k=2 then [e.i.toNat] else if e.k=4 then [e.x.length] else []
def dE:List Nat->Bs
 | []=>[]
 | n::r=>aP n++dE r
def bj (e:bA):Bs:=UInt8.ofNat e.k.toNat::(aP e.v.toNat++dE (dY e)++e.x)
def cY (e:bA):Option Bs:=if cd e then some (bj e) else none
def oZ (l:List Nat):List S:=l.map fun n:Nat=>S.int .u64 ((n:Nat):Int)
@[simp] theorem VF (l:List Nat):(oZ l).length=l.length:=by simp [oZ]
theorem jT:∀ l:List Nat,(dE l).length<=11*l.length
 | []=>by simp [dE]
 | n::r=>by have:=bF n;have:=jT r;simp [dE];omega
theorem uj:∀ (l:List Nat) (n:Nat),dE (l++[n])=dE l++aP n
 | [],n=>by simp [dE]
 | m::r,n=>by simp [dE,uj r n]
theorem oI (e:bA):(dY e).length<=5:=by
 unfold dY
 split
 · simp
 · split
   · simp
   · split<;>simp
theorem wy (d:Nat) {s0:St} {v0:T} {acc:Bs} {ns:List Nat} (hb:FB s0 s y acc) (hx:Rd 1 s x ns.length (oZ ns)) (eQ:∀ c,own x=some c->c<s.size/\own y≠some c/\s0.size<=c) (hn:∀ n∈ns,n<2 ^ 64) (hl:ns.length<=5) (ha:acc.length<=1000) :
 ∃ (z:S) (τ:St),loops (gB (R (d+1)) 8192) 8192 [v0,Z y,Z x,I .i64 ns.length,I .i64 0] s=some (.exit 1 [v0,Z z],τ)/\FB s0 τ z (acc++dE ns):=by
 obtain ⟨j,τ,lp,z,rfl,hf⟩:=aV (f:=gB (R (d+1)) 8192) (fun q v u=>∃ (k:Nat) (z:S),q+k=ns.length/\v=[v0,Z z,Z x,I .i64 ns.length,I .i64 k]/\FB s0 u z (acc++dE (ns.take k))/\Rd 1 u x ns.length (oZ ns)/\(∀ c,own x=some c->c<u.size/\own z≠some c))
  (fun j u=>∃ z,j = .exit 1 [v0,Z z]/\FB s0 u z (acc++dE ns)) (by
  rintro q v u ⟨k,z,hk,rfl,hf,hr,ho⟩
  by_cases eZ:k<ns.length
  · left
    have hc:ns[k]? = some ns[k]:=List.getElem?_eq_getElem eZ
    obtain ⟨p,ix,ld⟩:=Rd.yJ hr (n:=ns.length) (i:=(k:Int)) (v := .int .u64 (ns[k]:Int)) rfl (by simp [oZ,hc])
    have c0:(k:Int)<(ns.length:Int):=by omega
    have w1:IntKind.i64.wrap ((k:Int)+1)=((k+1:Nat):Int):=by rw [aE _ (by omega) (by omega)];omega
    have lh:ns.take (k+1)=ns.take k++[ns[k]]:=by rw [List.take_add_one,hc];rfl
    obtain ⟨p1,u1,e1,f1⟩:=fO d hf.gr.wf ns[k] (hn _ (List.getElem_mem eZ))
    have Rq:FB s0 u1 z (acc++dE (ns.take k)):=hf.kY f1.gr
    have hpl:(dE (ns.take k)).length<=55:=by have:=jT (ns.take k);rw [List.length_take] at this;omega
    obtain ⟨z2,u2,ap,pU,UU,U4,Zr⟩:=FB.PQ Rq f1.rd (by have:=bF ns[k];simp;omega)
    have hr2:Rd 1 u2 x ns.length (oZ ns):=hr.keep fun c gO=>by rw [U4 c (Nat.lt_of_lt_of_le (ho c gO).1 f1.gr.2.1) (ho c gO).2,f1.gr.2.2 c (ho c gO).1]
    have S9:∀ c,own x=some c->c<u2.size/\own z2≠some c:=fun c gO=>by
     have h1:=(ho c gO).1
     have h2:=f1.gr.2.1
     refine ⟨by omega,fun e => ?_⟩
     rcases Zr with n | n | ⟨c',n,hc2⟩
     · rw [n] at e;cases e
     · rw [n] at e;exact (ho c gO).2 e
     · rw [n] at e;cases e;omega
    refine ⟨[v0,Z z2,Z x,I .i64 ns.length,I .i64 ((k+1:Nat):Int)],u2,q-1,?_,by omega,k+1,z2,by omega,rfl,by rw [lh,uj,← List.append_assoc];exact pU,hr2,S9⟩
    unfold gB
    generalize R (d+1)=r at *
    generalize ((k+1:Nat):Int)=K1 at w1 ⊢
    generalize (k:Int)=K at *
    generalize (ns[k]:Int)=NK at *
    generalize (ns.length:Int)=L at *
    simp [c0,ix,ld,e1,ap,w1]
  · right
    have hk':k=ns.length:=by omega
    subst hk'
    rw [List.take_length] at hf
    refine ⟨.exit 1 [v0,Z z],u,?_,(fun v hv=>by cases hv),z,rfl,hf⟩
    unfold gB
    simp) 8192 ns.length [v0,Z y,Z x,I .i64 ns.length,I .i64 0] s ⟨0,y,by omega,rfl,by simpa [dE] using hb,hx,fun c hc=>⟨(eQ c hc).1,(eQ c hc).2.1⟩⟩ (by omega)
 exact ⟨z,τ,lp,hf⟩
def pb (e:bA):Prop:=0<=e.u/\e.u<4294967296
theorem er {e:bA} (h:cd e=true):0<=e.v/\e.v<=1073741824/\1<=e.k/\e.k<=4/\(e.k=1->e.x=[]/\1<=e.i/\e.i<=1073741824/\0<=e.t/\e.t<4/\0<=e.f/\e.f<e.o/\e.o<=1099511627776) ∧
 (e.k=2->1<=e.i/\e.i<=1073741824/\e={ bE with k:=2,v:=e.v,i:=e.i })/\(e.k=3->0<e.v/\e={ bE with k:=3,v:=e.v })/\(e.k=4->e.x.length<=300/\e={ bE with k:=4,v:=e.v,x:=e.x }/\(fI e.x).2.1=0):=by
 unfold cd at h
 split at h
 · cases h
 · rename_i hv
   have oC:0<=e.v/\e.v<=1073741824:=by omega
   refine ⟨oC.1,oC.2,?_⟩
   by_cases k1:e.k=1
   · rw [if_pos k1] at h
     simp only [Bool.and_eq_true,decide_eq_true_eq,pY] at h
     refine ⟨by omega,by omega,fun _ => ?_,(fun h2=>by omega),(fun h2=>by omega),(fun h2=>by omega)⟩
     obtain ⟨⟨⟨⟨⟨⟨a,b,b'⟩,c⟩,d⟩,f⟩,g⟩,o⟩:=h
     exact ⟨a,b,b',c,d,f,g,o⟩
   · rw [if_neg k1] at h
     by_cases k2:e.k=2
     · rw [if_pos k2] at h
       simp only [Bool.and_eq_true,decide_eq_true_eq,pY] at h
       exact ⟨by omega,by omega,(fun h2=>by omega),fun _=>⟨h.1.1,h.1.2,h.2⟩,(fun h2=>by omega),(fun h2=>by omega)⟩
     · rw [if_neg k2] at h
       by_cases k3:e.k=3
       · rw [if_pos k3] at h
         simp only [Bool.and_eq_true,decide_eq_true_eq] at h
         exact ⟨by omega,by omega,(fun h2=>by omega),(fun h2=>by omega),fun _=>h,(fun h2=>by omega)⟩
       · rw [if_neg k3] at h
         by_cases k4:e.k=4
         · rw [if_pos k4] at h
           simp only [Bool.and_eq_true,decide_eq_true_eq] at h
           exact ⟨by omega,by omega,(fun h2=>by omega),(fun h2=>by omega),(fun h2=>by omega),fun _=>⟨h.1.1,h.1.2,h.2⟩⟩
         · rw [if_neg k4] at h
           cases h
theorem Og {e:bA} (h:cd e=true) (hw:pb e):∀ n∈dY e,n<2 ^ 64:=by
 obtain ⟨_,_,_,_,h1,h2,_,h4⟩:=er h
 have:=hw.2
 intro n hn
 unfold dY at hn
 split at hn
 · rename_i k
   have:=h1 k
   simp at hn
   rcases hn with rfl | rfl | rfl | rfl | rfl<;>omega
 · split at hn
   · rename_i k
     have:=h2 k
     simp at hn
     omega
   · split at hn
     · rename_i k
       have:=h4 k
       simp at hn
       omega
     · cases hn
theorem ui {e:bA} (h:e.x.length<=300):(bj e).length<=400:=by
 have h1:=bF e.v.toNat
 have h2:=jT (dY e)
 have h3:=oI e
 simp [bj]
 omega
theorem qh {e:bA} (h:cd e=true):e.x.length<=300:=by
 obtain ⟨_,_,k1,k4,h1,h2,h3,h4⟩:=er h
 by_cases e1:e.k=1
 · rw [(h1 e1).1];simp
 · by_cases e2:e.k=2
   · rw [(h2 e2).2.2];simp [bE]
   · by_cases e3:e.k=3
     · rw [(h3 e3).2];simp [bE]
     · exact (h4 (by omega)).1
theorem DS (d:Nat) (wf:s.wf) {e:bA} (h:cd e=false):∃ t,R (d+9) 133 [AE e] s=some (.eF [.s .ay,.s (.int .i64 1)],t)/\Gr s t:=by
 rw [zB]
 unfold f133
 obtain ⟨s1,hs1⟩:∃ s1,s1=s.push (.cells true (cE e)):=⟨_,rfl⟩
 have cZ:aL s (cf (AE e))=some (Z (.ptr s.size 0),s1):=by rw [hs1];rfl
 have g1:Gr s s1:=by rw [hs1];exact Gr.push wf _
 have h1:s1.get s.size=some (.cells true (cE e)):=by rw [hs1];exact St.aq _ _
 have l8:=c7 (g:=s1.get) h1
 obtain ⟨s2,e2,g2⟩:=tW d g1.wf e
 rw [h] at e2
 exact ⟨s2,by simp [cZ,l8,e2,aQ,bK],g1.trans g2⟩
theorem DT (d:Nat) (wf:s.wf) {e:bA} (h:cd e=true) (hw:pb e):∃ y t,R (d+9) 133 [AE e] s=some (.eF [.s y,.s (.int .i64 0)],t)/\FB s t y (bj e):=by
 rw [zB]
 unfold f133
 obtain ⟨r1,r2,r3,r4,jb,hk2,hk3,S3⟩:=er h
 obtain ⟨s1,hs1⟩:∃ s1,s1=s.push (.cells true (cE e)):=⟨_,rfl⟩
 have cZ:aL s (cf (AE e))=some (Z (.ptr s.size 0),s1):=by rw [hs1];rfl
 have g1:Gr s s1:=by rw [hs1];exact Gr.push wf _
 have h1:s1.get s.size=some (.cells true (cE e)):=by rw [hs1];exact St.aq _ _
 have z1:s1.size=s.size+1:=by rw [hs1];rfl
 have l8:=c7 (g:=s1.get) h1
 obtain ⟨s2,e2,g2⟩:=tW d g1.wf e
 rw [h] at e2
 have h2:s2.get s.size=some (.cells true (cE e)):=g2.get h1 g1.wf
 have UU:s.size+1<=s2.size:=by have:=g2.2.1;omega
 have lk:ab (Z (.ptr s.size 0)) s2.get=some (I .i64 e.k):=ai h2 rfl
 have wk:IntKind.u8.wrap e.k=((UInt8.ofNat e.k.toNat).toNat:Int):=by
  have:=fP e.k.toNat
  rw [show ((e.k.toNat:Nat):Int)=e.k by omega] at this
  rw [this,ed]
 obtain ⟨kb,hkb⟩:∃ kb,kb=UInt8.ofNat e.k.toNat:=⟨_,rfl⟩
 rw [← hkb] at wk
 obtain ⟨s4,hs4⟩:∃ s4,s4=s2.push (.cells true (U [kb])):=⟨_,rfl⟩
 have ya:aL s2 (aS 1 (aG [.int .u8 0] [(0,1,I .u8 kb.toNat)]))=some (Z (.sl s2.size 0 1 (.known 1)),s4):=by rw [hs4,NY];rfl
 have f4:FB s2 s4 (.sl s2.size 0 1 (.known 1)) [kb]:=by rw [hs4];exact Fr.lit 1 g2.wf rfl
 have h4:s4.get s.size=some (.cells true (cE e)):=f4.gr.get h2 g2.wf
 have lv:ab (Z (.ptr s.size 1)) s4.get=some (I .i64 e.v):=ai h4 rfl
 have wv:IntKind.u64.wrap e.v=(e.v.toNat:Int):=by rw [cq _ (by omega) (by omega)];omega
 obtain ⟨y5,s5,e5,f5⟩:=fO (d+7) f4.gr.wf e.v.toNat (by omega)
 have h5:s5.get s.size=some (.cells true (cE e)):=f5.gr.get h4 f4.gr.wf
 have WT:ab (Z (.ptr s.size 0)) s5.get=some (I .i64 e.k):=ai h5 rfl
 have Wy:cA 8 s5.get (Cx 3 s2.size (aS 1 (aG [.int .u8 0] [(0,1,I .u8 kb.toNat)])) [])=s5.get:=rfl
 have f45:FB s2 s5 (.sl s2.size 0 1 (.known 1)) [kb]:=f4.kY f5.gr
 obtain ⟨y6,s6,SD,f6,z6,k6,n6⟩:=FB.PQ f45 f5.rd (by have:=bF e.v.toNat;simp;omega)
 have h6:s6.get s.size=some (.cells true (cE e)):=f6.gr.get h2 g2.wf
 have ou:([kb]++aP e.v.toNat).length<=1000:=by have:=bF e.v.toNat;simp;omega
 have L:∀ (j:Nat) (x:S),(cE e)[j]? = some x->ab (Z (.ptr s.size j)) s6.get=some (Z x):=fun j x hx=>ai h6 hx
 have l0:=L 0 _ rfl
 have l2:=L 2 _ rfl
 have l3:=L 3 _ rfl
 have l4:=L 4 _ rfl
 have l5:=L 5 _ rfl
 have l6:=L 6 _ rfl
 have l7:=L 7 _ rfl
 have fin:∀ (z:S) (τ:St),FB s2 τ z ([kb]++aP e.v.toNat++dE (dY e))->∃ y t,ab (Z (.ptr s.size 7)) τ.get=some (Z (.str e.x))/\aJ 1 1 (Z z) (Z (.str e.x)) τ=some (Z y,t)/\FB s t y (bj e):=fun z τ hf=>by
  have hx:=qh h
  have hn:=jT (dY e)
  have Ww:=oI e
  obtain ⟨y,t,ap,pU,_⟩:=FB.PR (cs:=e.x) hf (by simp at ou ⊢;omega)
  refine ⟨y,t,ai (hf.gr.get h2 g2.wf) rfl,ap,?_⟩
  have e1:[kb]++aP e.v.toNat++dE (dY e)++e.x=bj e:=by rw [hkb];simp [bj]
  rw [e1] at pU
  exact pU.from (g1.trans g2)
 have hlt:=Og h hw
 have hnl:=oI e
 have Zy:∀ c,own y6=some c->c<s6.size:=fun c hc=>(f6.new c hc).2
 have num:∀ n,n=(dY e).length->∃ z τ,loops (gB (R (d+8)) 8192) 8192 [Z (.ptr s.size 0),Z y6,Z (.sl s6.size 0 n (.known n)),I .i64 (n:Nat),I .i64 0] (s6.push (.cells true (oZ (dY e))))=some (.exit 1 [Z (.ptr s.size 0),Z z],τ)/\FB s2 τ z ([kb]++aP e.v.toNat++dE (dY e)):=fun n hn=>by
  subst hn
  have L:=Fr.lit 1 f6.gr.wf (n:=(dY e).length) (vs:=oZ (dY e)) (by simp)
  exact wy (d+7) (v0:=Z (.ptr s.size 0)) (f6.kY L.gr) L.rd (fun c hc=>by
   cases hc
   exact ⟨by simp,(fun e=>by have:=Zy _ e;omega),by have:=f6.gr.2.1;omega⟩) hlt hnl ou
 simp only [Nat.add_assoc,Nat.reduceAdd] at e5
 by_cases c1:e.k=1
 · have ns:dY e=[e.i.toNat,e.t.toNat,e.f.toNat,e.o.toNat,e.u.toNat]:=by unfold dY;rw [if_pos c1]
   obtain ⟨_,i1,i2,t1,t2,q1,q2,q3⟩:=jb c1
   have hu:=hw.1
   have zS:=hw.2
   have w2:IntKind.u64.wrap e.i=(e.i.toNat:Int):=by rw [cq _ (by omega) (by omega)];omega
   have w3:IntKind.u64.wrap e.t=(e.t.toNat:Int):=by rw [cq _ (by omega) (by omega)];omega
   have w4:IntKind.u64.wrap e.f=(e.f.toNat:Int):=by rw [cq _ (by omega) (by omega)];omega
   have w5:IntKind.u64.wrap e.o=(e.o.toNat:Int):=by rw [cq _ (by omega) (by omega)];omega
   have w6:IntKind.u64.wrap e.u=(e.u.toNat:Int):=by rw [cq _ (by omega) (by omega)];omega
   obtain ⟨z,τ,lp,hf⟩:=num 5 (by rw [ns];rfl)
   obtain ⟨y,t,lx,PS,pU⟩:=fin z τ hf
   have DM:aL s6 (aS 5 (aG [.int .u64 0,.int .u64 0,.int .u64 0,.int .u64 0,.int .u64 0] [(0,1,I .u64 (e.i.toNat:Int)),(1,1,I .u64 (e.t.toNat:Int)),(2,1,I .u64 (e.f.toNat:Int)),(3,1,I .u64 (e.o.toNat:Int)),(4,1,I .u64 (e.u.toNat:Int))])) =
    some (Z (.sl s6.size 0 5 (.known 5)),s6.push (.cells true (oZ (dY e)))):=by rw [ns];rfl
   refine ⟨y,t,?_,pU⟩
   generalize s6.push (.cells true (oZ (dY e)))=s7 at *
   generalize R (d+8)=r at *
   generalize (e.i.toNat:Int)=A2 at *
   generalize (e.t.toNat:Int)=A3 at *
   generalize (e.f.toNat:Int)=A4 at *
   generalize (e.o.toNat:Int)=A5 at *
   generalize (e.u.toNat:Int)=A6 at *
   generalize (e.v.toNat:Int)=A1 at *
   generalize (kb.toNat:Int)=KB at *
   have Gs:IntKind.u8.wrap 1=KB:=by rw [← c1];exact wk
   have lq:loops (gB r 8192) 8192 [Z (.ptr s.size 0),Z y6,Z (.sl s6.size 0 5 (.known 5)),I .i64 5,I .i64 0] s7=some (.exit 1 [Z (.ptr s.size 0),Z z],τ):=lp
   simp [cZ,l8,e2,lk,c1,Gs,ya,lv,wv,e5,SD,Wy,WT,l0,l2,l3,l4,l5,l6,w2,w3,w4,w5,w6,DM,lq,lx,PS,aQ,bK]
 · by_cases c2:e.k=2
   · have ns:dY e=[e.i.toNat]:=by unfold dY;rw [if_neg c1,if_pos c2]
     obtain ⟨i1,i2,_⟩:=hk2 c2
     have w2:IntKind.u64.wrap e.i=(e.i.toNat:Int):=by rw [cq _ (by omega) (by omega)];omega
     obtain ⟨z,τ,lp,hf⟩:=num 1 (by rw [ns];rfl)
     obtain ⟨y,t,lx,PS,pU⟩:=fin z τ hf
     have DM:aL s6 (aS 1 (aG [.int .u64 0] [(0,1,I .u64 (e.i.toNat:Int))]))=some (Z (.sl s6.size 0 1 (.known 1)),s6.push (.cells true (oZ (dY e)))):=by rw [ns];rfl
     refine ⟨y,t,?_,pU⟩
     generalize s6.push (.cells true (oZ (dY e)))=s7 at *
     generalize R (d+8)=r at *
     generalize (e.i.toNat:Int)=A2 at *
     generalize (e.v.toNat:Int)=A1 at *
     generalize (kb.toNat:Int)=KB at *
     have Gs:IntKind.u8.wrap 2=KB:=by rw [← c2];exact wk
     have lq:loops (gB r 8192) 8192 [Z (.ptr s.size 0),Z y6,Z (.sl s6.size 0 1 (.known 1)),I .i64 1,I .i64 0] s7=some (.exit 1 [Z (.ptr s.size 0),Z z],τ):=lp
     simp [cZ,l8,e2,lk,c2,Gs,ya,lv,wv,e5,SD,Wy,WT,l0,l2,w2,DM,lq,lx,PS,aQ,bK]
   · by_cases c4:e.k=4
     · have ns:dY e=[e.x.length]:=by unfold dY;rw [if_neg c1,if_neg c2,if_pos c4]
       have hx:=qh h
       have w2:IntKind.u64.wrap (e.x.length:Int)=(e.x.length:Int):=wrap64 _ (by omega)
       obtain ⟨z,τ,lp,hf⟩:=num 1 (by rw [ns];rfl)
       obtain ⟨y,t,lx,PS,pU⟩:=fin z τ hf
       have DM:aL s6 (aS 1 (aG [.int .u64 0] [(0,1,I .u64 (e.x.length:Int))]))=some (Z (.sl s6.size 0 1 (.known 1)),s6.push (.cells true (oZ (dY e)))):=by rw [ns];rfl
       refine ⟨y,t,?_,pU⟩
       generalize s6.push (.cells true (oZ (dY e)))=s7 at *
       generalize R (d+8)=r at *
       generalize (e.v.toNat:Int)=A1 at *
       generalize (kb.toNat:Int)=KB at *
       have Gs:IntKind.u8.wrap 4=KB:=by rw [← c4];exact wk
       have lq:loops (gB r 8192) 8192 [Z (.ptr s.size 0),Z y6,Z (.sl s6.size 0 1 (.known 1)),I .i64 1,I .i64 0] s7=some (.exit 1 [Z (.ptr s.size 0),Z z],τ):=lp
       simp [cZ,l8,e2,lk,c4,Gs,ya,lv,wv,e5,SD,Wy,WT,l0,l7,w2,DM,lq,lx,PS,aQ,bK]
     · have c3:e.k=3:=by omega
       have ns:dY e=[]:=by unfold dY;rw [if_neg c1,if_neg c2,if_neg c4]
       obtain ⟨z,τ,lp,hf⟩:=wy (x := .ay) (ns:=[]) (d+7) (v0:=Z (.ptr s.size 0)) f6 (Rd.nil 1 _) (fun c hc=>by cases hc) (fun n hn=>by cases hn) (by simp) ou
       rw [← ns] at hf
       obtain ⟨y,t,lx,PS,pU⟩:=fin z τ hf
       refine ⟨y,t,?_,pU⟩
       simp only [Nat.add_assoc,Nat.reduceAdd] at lp
       generalize R (d+8)=r at *
       generalize (e.v.toNat:Int)=A1 at *
       generalize (kb.toNat:Int)=KB at *
       have Gs:IntKind.u8.wrap 3=KB:=by rw [← c3];exact wk
       have lq:loops (gB r 8192) 8192 [Z (.ptr s.size 0),Z y6,Z .ay,I .i64 0,I .i64 0] s6=some (.exit 1 [Z (.ptr s.size 0),Z z],τ):=lp
       simp [cZ,l8,e2,lk,c3,Gs,ya,lv,wv,e5,SD,Wy,WT,l0,lq,lx,PS,aQ,bK]
end
def mH (bs:Bs) (most at_:Nat) (bad:Bool):Nat×Nat×Bool:=match jW bs at_ with
 | some (n,e)=>(min n most,e,bad||decide (most<n))
 | none=>(0,at_,true)
def bX (bs:Bs) (c:UInt8):Option (bA×Bool) :=
 let p:=mH bs 1073741824 1 false
 let e0:bA:={ bE with k:=c.toNat,v:=(p.1:Nat) }
 if c.toNat=1 then
  let i:=mH bs 1073741824 p.2.1 p.2.2
  let t:=mH bs 4 i.2.1 i.2.2
  let f:=mH bs 1099511627776 t.2.1 t.2.2
  let o:=mH bs 1099511627776 f.2.1 f.2.2
  let u:=mH bs 4294967295 o.2.1 o.2.2
  some ({ e0 with i:=(i.1:Nat),t:=(t.1:Nat),f:=(f.1:Nat),o:=(o.1:Nat),u:=(u.1:Nat) },u.2.2)
 else if c.toNat=2 then
  let i:=mH bs 1073741824 p.2.1 p.2.2
  some ({ e0 with i:=(i.1:Nat) },i.2.2)
 else if c.toNat=4 then
  let m:=mH bs 300 p.2.1 p.2.2
  if m.2.2=true\/bs.length<m.2.1+m.1 then none else some ({ e0 with x:=(bs.drop m.2.1).take m.1 },m.2.2)
 else some (e0,p.2.2)
def B3 (bs:Bs):Option bA:=match bs with
 | []=>none
 | c::_=>match bX bs c with
   | none=>none
   | some (e,bad)=>if bad=false/\cY e=some bs then some e else none
section
variable {s t:St} {x y:S} {bs cs:Bs} {i:Nat}
theorem Jy {bs:Bs} {most at_:Nat} {bad:Bool}:(mH bs most at_ bad).1<=most:=by
 unfold mH
 split
 · exact Nat.min_le_right _ _
 · exact Nat.zero_le _
theorem R8 {bs:Bs} {most at_:Nat} {bad:Bool} (h:at_<=bs.length):(mH bs most at_ bad).2.1<=bs.length:=by
 unfold mH
 split
 · rename_i n e he
   exact (sI he).2
 · exact h
theorem xp (d:Nat) (h:RB s x bs) (k:RB s y cs):R (d+1) 122 [Z x,Z y] s=some (B (decide (bs=cs)),s):=by
 rw [Hk]
 unfold f122
 simp [h.str,k.str]
structure vm (s0 s:St) (x:S) (bs:Bs) (at_:Nat) (bad:Bool):Prop where
 gr:Gr s0 s
 ge:s0.size+4<=s.size
 c1:s.get s0.size=some (.cells true [x])
 c2:s.get (s0.size+1)=some (.cells true (cE bE))
 c4:s.get (s0.size+2)=some (.cells true [.int .i64 (at_:Nat)])
 c5:s.get (s0.size+3)=some (.cells true [.bool bad])
 le:at_<=bs.length
theorem vm.set {s0:St} {at_:Nat} {bad:Bool} (h:vm s0 s x bs at_ bad) {b:Nat} (hb:s0.size+4<=b) (iE:b<s.size) (v:dV):vm s0 (s.set b v) x bs at_ bad :=
 ⟨⟨St.wf_set h.gr.wf iE _,by simpa using h.gr.2.1,fun c hc=>by rw [St.aj _ _ (by omega)];exact h.gr.2.2 c hc⟩,by simpa using h.ge,by rw [St.aj _ _ (by omega)];exact h.c1,by rw [St.aj _ _ (by omega)];exact h.c2,
  by rw [St.aj _ _ (by omega)];exact h.c4,by rw [St.aj _ _ (by omega)];exact h.c5,h.le⟩
theorem vm.kY {s0:St} {at_:Nat} {bad:Bool} (h:vm s0 s x bs at_ bad) (g:Gr s t):vm s0 t x bs at_ bad:=by
 have:=h.ge
 exact ⟨h.gr.trans g,Nat.le_trans h.ge g.2.1,by rw [g.2.2 _ (by omega)];exact h.c1,by rw [g.2.2 _ (by omega)];exact h.c2,by rw [g.2.2 _ (by omega)];exact h.c4,by rw [g.2.2 _ (by omega)];exact h.c5,h.le⟩
theorem Ju (d:Nat) {s0:St} {at_:Nat} {bad:Bool} (h:vm s0 s x bs at_ bad) (hx:RB s0 x bs) (eQ:∀ c,own x=some c->c<s0.size) (hl:bs.length<=8000) (most:Nat) (hm:most<2 ^ 63) :
 ∃ t,R (d+2) 132 [I .u64 (most:Nat),Z (.ptr s0.size 0),Z (.ptr (s0.size+2) 0),Z (.ptr (s0.size+3) 0)] s=some (I .i64 ((mH bs most at_ bad).1:Nat),t)/\vm s0 t x bs (mH bs most at_ bad).2.1 (mH bs most at_ bad).2.2/\t.size=s.size ∧
   ∀ b,b≠s0.size+2->b≠s0.size+3->t.get b=s.get b:=by
 rw [Hp]
 unfold f132
 have hge:=h.ge
 have hle:=h.le
 have rx:RB s x bs:=hx.gr eQ h.gr
 have l1:ab (Z (.ptr s0.size 0)) s.get=some (Z x):=ai h.c1 rfl
 have l4:ab (Z (.ptr (s0.size+2) 0)) s.get=some (I .i64 (at_:Nat)):=ai h.c4 rfl
 have l5:ab (Z (.ptr (s0.size+3) 0)) s.get=some (B bad):=ai h.c5 rfl
 have e1:=o8 d rx (by omega) (at_:=at_) (by omega)
 obtain ⟨N,hN⟩:∃ N,N=mH bs most at_ bad:=⟨_,rfl⟩
 rw [← hN]
 obtain ⟨t1,ht1⟩:∃ t1,t1=s.set (s0.size+3) (.cells true [.bool N.2.2]):=⟨_,rfl⟩
 have yB:aw 1 (Z (.ptr (s0.size+3) 0)) (B N.2.2) s=some (tt,t1):=by rw [ht1];exact aW h.c5 (by simp)
 have c4':t1.get (s0.size+2)=some (.cells true [.int .i64 (at_:Nat)]):=by rw [ht1,St.aj _ _ (by omega)];exact h.c4
 obtain ⟨t2,ht2⟩:∃ t2,t2=t1.set (s0.size+2) (.cells true [.int .i64 (N.2.1:Nat)]):=⟨_,rfl⟩
 have yU:aw 1 (Z (.ptr (s0.size+2) 0)) (I .i64 (N.2.1:Nat)) t1=some (tt,t2):=by rw [ht2];exact aW c4' (by simp)
 have z1:t1.size=s.size:=by rw [ht1];rfl
 have z2:t2.size=s.size:=by rw [ht2];exact z1
 have w1:t1.wf:=by rw [ht1];exact St.wf_set h.gr.wf (by omega) _
 have w2:t2.wf:=by rw [ht2];exact St.wf_set w1 (by omega) _
 have keep:∀ b,b≠s0.size+2->b≠s0.size+3->t2.get b=s.get b:=fun b h1 h2=>by rw [ht2,St.aj _ _ h1,ht1,St.aj _ _ h2]
 have hN1:N.2.1<=bs.length:=by rw [hN];exact R8 hle
 have cur:vm s0 t2 x bs N.2.1 N.2.2:=⟨⟨w2,by rw [z2];exact h.gr.2.1,fun b hb=>by rw [keep b (by omega) (by omega)];exact h.gr.2.2 b hb⟩,by omega,by rw [keep _ (by omega) (by omega)];exact h.c1,by rw [keep _ (by omega) (by omega)];exact h.c2,
  by rw [ht2];exact St.ar _ _ _,by rw [ht2,St.aj _ _ (by omega),ht1];exact St.ar _ _ _,hN1⟩
 refine ⟨t2,?_,cur,z2,keep⟩
 cases hv:jW bs at_ with
 | none =>
   have hn:N=(0,at_,true):=by rw [hN];unfold mH;rw [hv]
   rw [hv] at e1
   simp only [uF,if_pos hle] at e1
   rw [hn] at yB yU ⊢
   have pX:min (0:Int) ((most:Nat):Int)=0:=by omega
   have w0:IntKind.i64.wrap 0=0:=rfl
   cases bad with
   | true=>simp [l1,l4,e1,ah,l5,kN,yB,yU,pX,w0]
   | false=>simp [l1,l4,e1,ah,l5,kN,yB,yU,pX,w0]
 | some p =>
   obtain ⟨n,e⟩:=p
   have hn:N=(min n most,e,bad||decide (most<n)):=by rw [hN];unfold mH;rw [hv]
   rw [hv] at e1
   simp only [uF] at e1
   rw [hn] at yB yU ⊢
   have pX:min ((n:Nat):Int) ((most:Nat):Int)=((min n most:Nat):Int):=by omega
   have wm:IntKind.i64.wrap ((min n most:Nat):Int)=((min n most:Nat):Int):=aE _ (by omega) (by omega)
   have cm:decide (((most:Nat):Int)<((n:Nat):Int))=decide (most<n):=decide_eq_decide.2 (by omega)
   generalize ((min n most:Nat):Int)=M at *
   generalize ((n:Nat):Int)=NN at *
   generalize ((most:Nat):Int)=MM at *
   generalize decide (most<n)=dd at *
   cases bad with
   | true=>simp [l1,l4,e1,ah,l5,kN,yU,pX,wm] at yB ⊢;simp [yB,yU]
   | false=>simp [l1,l4,e1,ah,l5,kN,yU,pX,wm,cm] at yB ⊢;simp [yB,yU]
noncomputable def kx (aa:ak) (rE:List T) (AF:St):Option (T×St) :=
 bd (aH 8 (rE.getD 3 .any) AF.get) fun t71 =>
 ax (aa 133 [t71] AF) fun t72 Br =>
 bd (ah t72 0) fun t73 =>
 bd (ah t72 1) fun t74 =>
 bd (ab (rE.getD 2 .any) Br.get) fun t75 =>
 bd (gT (gd t75 false) (some t74)) fun t77 =>
 bd (gT (gd t75 false) (af .neq t77 (I .i64 0))) fun t78 =>
 bd (aC t75 (B true) t78) fun t79 =>
 bd (gT (gd t79 false) (some t73)) fun t81 =>
 bd (gT (gd t79 false) (ab (rE.getD 0 .any) Br.get)) fun t82 =>
 ax (gS (gd t79 false) Br (aa 122 [t81,t82] Br)) fun t83 Gi =>
 bd (gT (gd t79 false) (jZ .not t83)) fun t84 =>
 bd (aC t79 (B true) t84) fun t85 =>
 br t85 (bd (aU (aG [.int .i64 0,.int .i64 0,.int .i64 0,.int .i64 0,.int .i64 0,.int .i64 0,.int .u32 0,.str []] [])) fun t86 =>
 ax (aw 8 (rE.getD 1 .any) t86 Gi) fun _ Gj =>
 bd (rC (aH 8 (rE.getD 1 .any) Gj.get) (rT (I .i64 2) (some []))) fun Zd=>bd (aQ Zd) fun Vx =>
 some (Vx,Gj))
 (bd (aH 8 (rE.getD 3 .any) Gi.get) fun t87 =>
 ax (aw 8 (rE.getD 1 .any) t87 Gi) fun _ Sh =>
 bd (rC (aH 8 (rE.getD 1 .any) Sh.get) (rT (I .i64 0) (some []))) fun Ze=>bd (aQ Ze) fun ZP =>
 some (ZP,Sh))
abbrev CK (o:Option bA):T:=match o with
 | some e => .eF [.agg (cE e),.s (.int .i64 0)]
 | none => .eF [.agg (cE bE),.s (.int .i64 2)]
theorem Ko (d:Nat) {s0:St} {at_:Nat} {bad:Bool} {e:bA} (h:vm s0 s x bs at_ bad) (hx:RB s0 x bs) (eQ:∀ c,own x=some c->c<s0.size) (hz:s.size=s0.size+5) (he:s.get (s0.size+4)=some (.cells true (cE e))) (hw:pb e) :
 ∃ τ,kx (R (d+9)) [Z (.ptr s0.size 0),Z (.ptr (s0.size+1) 0),Z (.ptr (s0.size+3) 0),Z (.ptr (s0.size+4) 0)] s=some (CK (if bad=false/\cY e=some bs then some e else none),τ)/\Gr s0 τ:=by
 have l8:=c7 (g:=s.get) he
 unfold kx
 have fin:∀ u,Gr s u->ab (Z (.ptr (s0.size+3) 0)) u.get=some (B bad)/\ab (Z (.ptr s0.size 0)) u.get=some (Z x)/\RB u x bs/\aH 8 (Z (.ptr (s0.size+4) 0)) u.get=some (AE e) ∧
  (∀ e',aw 8 (Z (.ptr (s0.size+1) 0)) (AE e') u=some (tt,u.set (s0.size+1) (.cells true (cE e')))/\aH 8 (Z (.ptr (s0.size+1) 0)) (u.set (s0.size+1) (.cells true (cE e'))).get=some (AE e')/\Gr s0 (u.set (s0.size+1) (.cells true (cE e')))):=fun u g=>by
  have h':=h.kY g
  have he':u.get (s0.size+4)=some (.cells true (cE e)):=by rw [g.2.2 _ (by omega)];exact he
  refine ⟨ai h'.c5 rfl,ai h'.c1 rfl,hx.gr eQ h'.gr,c7 he',fun e'=>⟨jB h'.c2 rfl,c7 (St.ar _ _ _),⟨St.wf_set h'.gr.wf (by have:=h'.ge;omega) _,by simpa using h'.gr.2.1,fun b hb=>by rw [St.aj _ _ (by omega)];exact h'.gr.2.2 b hb⟩⟩⟩
 cases hm:cd e with
 | false =>
   obtain ⟨u,eu,gu⟩:=DS d h.gr.wf hm
   obtain ⟨f1,f2,f3,f4,f5⟩:=fin u gu
   obtain ⟨q1,q2,q3⟩:=f5 bE
   have hp:¬ (bad=false/\cY e=some bs):=fun hh=>by simp [cY,hm] at hh
   rw [if_neg hp]
   refine ⟨_,?_,q3⟩
   generalize u.set (s0.size+1) (.cells true (cE bE))=u2 at *
   generalize R (d+9)=r at *
   cases bad with
   | true=>simp [l8,eu,ah,f1,kN,BD,q1,q2,rC,rT,aQ,bK]
   | false=>simp [l8,eu,ah,f1,kN,BD,q1,q2,rC,rT,aQ,bK]
 | true =>
   obtain ⟨y,u,eu,fu⟩:=DT d h.gr.wf hm hw
   obtain ⟨f1,f2,f3,f4,f5⟩:=fin u fu.gr
   have eq:=xp (d+8) fu.rd f3
   have hput:cY e=some (bj e):=by simp [cY,hm]
   simp only [Nat.add_assoc,Nat.reduceAdd] at eq
   cases bad with
   | true =>
     obtain ⟨q1,q2,q3⟩:=f5 bE
     have hp:¬ (true=false/\cY e=some bs):=fun hh=>by simp at hh
     rw [if_neg hp]
     refine ⟨_,?_,q3⟩
     generalize u.set (s0.size+1) (.cells true (cE bE))=u2 at *
     generalize R (d+9)=r at *
     simp [l8,eu,ah,f1,kN,BD,q1,q2,rC,rT,aQ,bK]
   | false =>
     by_cases hb:bj e=bs
     · obtain ⟨q1,q2,q3⟩:=f5 e
       rw [if_pos ⟨rfl,by rw [hput,hb]⟩]
       rw [decide_eq_true hb] at eq
       refine ⟨_,?_,q3⟩
       generalize u.set (s0.size+1) (.cells true (cE e))=u2 at *
       generalize R (d+9)=r at *
       simp [l8,eu,ah,f1,f2,f4,eq,q1,q2,rC,rT,aQ,bK]
     · obtain ⟨q1,q2,q3⟩:=f5 bE
       have hp:¬ (false=false/\cY e=some bs):=fun hh=>by
        rw [hput] at hh
        exact hb (by simpa using hh.2)
       rw [if_neg hp]
       rw [decide_eq_false hb] at eq
       refine ⟨_,?_,q3⟩
       generalize u.set (s0.size+1) (.cells true (cE bE))=u2 at *
       generalize R (d+9)=r at *
       simp [l8,eu,ah,f1,f2,eq,BD,q1,q2,rC,rT,aQ,bK]
theorem Ln {aa:ak} {f a b c:Nat} {args:List T} {σ:St} (h:eO Tryz.prog f=true):dyn Tryz.prog aa (Z (.iY f [(a,0),(b,0),(c,0)])) args σ=aa f (args++[Z (.ptr a 0),Z (.ptr b 0),Z (.ptr c 0)]) σ:=by
 simp [dyn,h,zm]
theorem Nh (d:Nat) (wf:s.wf) (hx:RB s x bs) (eQ:∀ c,own x=some c->c<s.size) (hl:bs.length<=8000):∃ τ,R (d+10) 94 [Z x] s=some (CK (B3 bs),τ)/\Gr s τ:=by
 rw [Na]
 unfold f94
 obtain ⟨n,hn⟩:∃ n,n=s.size:=⟨_,rfl⟩
 obtain ⟨s1,hs1⟩:∃ s1,s1=s.push (.cells true [x]):=⟨_,rfl⟩
 have cZ:aL s (cf (Z x))=some (Z (.ptr n 0),s1):=by rw [hs1,hn];rfl
 have g1:Gr s s1:=by rw [hs1];exact Gr.push wf _
 have z1:s1.size=n+1:=by rw [hs1,hn];rfl
 have b1:s1.get n=some (.cells true [x]):=by rw [hs1,hn];exact St.aq _ _
 obtain ⟨s2,lS⟩:∃ s2,s2=s1.push (.cells true (cE bE)):=⟨_,rfl⟩
 have wz:aL s1 (bb [.int .i64 0,.int .i64 0,.int .i64 0,.int .i64 0,.int .i64 0,.int .i64 0,.int .u32 0,.str []])=some (Z (.ptr (n+1) 0),s2):=by rw [lS,← z1];rfl
 have g2:Gr s1 s2:=by rw [lS];exact Gr.push g1.wf _
 have z2:s2.size=n+2:=by rw [lS];simp [z1]
 have b2:s2.get (n+1)=some (.cells true (cE bE)):=by rw [lS,← z1];exact St.aq _ _
 have O0:s2.get n=some (.cells true [x]):=by rw [g2.2.2 n (by omega)];exact b1
 have lW:ab (Z (.ptr n 0)) s2.get=some (Z x):=ai O0 rfl
 have hlen:=hx.tU
 cases KM:bs with
 | nil =>
   rw [KM] at hlen
   have st:=jB (e:=bE) b2 rfl
   have ld:=c7 (g:=(s2.set (n+1) (.cells true (cE bE))).get) (i:=n+1) (e:=bE) (St.ar _ _ _)
   refine ⟨s2.set (n+1) (.cells true (cE bE)),?_,⟨St.wf_set g2.wf (by omega) _,by simp;omega,fun b hb=>by rw [St.aj _ _ (by omega),g2.2.2 b (by omega),g1.2.2 b hb]⟩⟩
   generalize s2.set (n+1) (.cells true (cE bE))=s3 at *
   simp [cZ,wz,lW,hlen,BD,st,ld,rC,rT,aQ,bK,B3]
 | cons c0 rest =>
   have hpos:0<bs.length:=by rw [KM];simp
   obtain ⟨s6,Dx⟩:∃ s6,s6=s2.push (.cells true [.int .i64 0]):=⟨_,rfl⟩
   have Tg:aL s2 (bb [.int .i64 0])=some (Z (.ptr (n+2) 0),s6):=by rw [Dx,← z2];rfl
   have g6:Gr s2 s6:=by rw [Dx];exact Gr.push g2.wf _
   have z6:s6.size=n+3:=by rw [Dx];simp [z2]
   have b6:s6.get (n+2)=some (.cells true [.int .i64 0]):=by rw [Dx,← z2];exact St.aq _ _
   obtain ⟨s7,fQ⟩:∃ s7,s7=s6.push (.cells true [.bool false]):=⟨_,rfl⟩
   have DM:aL s6 (bb [.bool false])=some (Z (.ptr (n+3) 0),s7):=by rw [fQ,← z6];rfl
   have g7:Gr s6 s7:=by rw [fQ];exact Gr.push g6.wf _
   have z7:s7.size=n+4:=by rw [fQ];simp [z6]
   have b7:s7.get (n+3)=some (.cells true [.bool false]):=by rw [fQ,← z6];exact St.aq _ _
   have b6':s7.get (n+2)=some (.cells true [.int .i64 0]):=by rw [g7.2.2 _ (by omega)];exact b6
   obtain ⟨s8,vO⟩:∃ s8,s8=s7.set (n+2) (.cells true [.int .i64 1]):=⟨_,rfl⟩
   have yV:aw 1 (Z (.ptr (n+2) 0)) (I .i64 1) s7=some (tt,s8):=by rw [vO];exact aW b6' (by simp)
   have b7':s8.get (n+3)=some (.cells true [.bool false]):=by rw [vO,St.aj _ _ (by omega)];exact b7
   obtain ⟨s9,Tb⟩:∃ s9,s9=s8.set (n+3) (.cells true [.bool false]):=⟨_,rfl⟩
   have Gl:aw 1 (Z (.ptr (n+3) 0)) (B false) s8=some (tt,s9):=by rw [Tb];exact aW b7' (by simp)
   have z9:s9.size=n+4:=by rw [Tb,vO];simpa using z7
   have wf8:s8.wf:=by rw [vO];exact St.wf_set g7.wf (by omega) _
   have Z4:s9.wf:=by rw [Tb];exact St.wf_set wf8 (by rw [vO];simp [z7]) _
   have Jz:∀ b,b<n+2->s9.get b=s2.get b:=fun b hb=>by rw [Tb,St.aj _ _ (by omega),vO,St.aj _ _ (by omega),g7.2.2 b (by omega),g6.2.2 b (by omega)]
   have P5:vm s s9 x bs 1 false:=by
    refine ⟨⟨Z4,by omega,fun b hb=>by rw [Jz b (by omega),g2.2.2 b (by omega),g1.2.2 b hb]⟩,by omega,by rw [← hn,Jz _ (by omega)];exact O0,by rw [← hn,Jz _ (by omega)];exact b2,?_,by rw [← hn,Tb];exact St.ar _ _ _,by omega⟩
    rw [← hn,Tb,St.aj _ _ (by omega),vO]
    exact St.ar _ _ _
   have RZ:ab (Z (.ptr n 0)) s9.get=some (Z x):=by rw [hn];exact ai P5.c1 rfl
   have rx9:RB s9 x bs:=hx.gr eQ P5.gr
   have hc0:bs[0]? = some c0:=by rw [KM];rfl
   obtain ⟨p0,Gc,Pw⟩:=RB.En rx9 (n:=0) (j:=0) rfl hc0
   have iY:rG 132 [Z (.ptr n 0),Z (.ptr (n+2) 0),Z (.ptr (n+3) 0)] []=some (Z (.iY 132 [(n,0),(n+2,0),(n+3,0)])):=rfl
   have XM:eO Tryz.prog 132=true:=by kernel_rfl
   have dy:∀ (r:ak) (m:Int) (u:St),dyn Tryz.prog r (Z (.iY 132 [(n,0),(n+2,0),(n+3,0)])) [I .u64 m] u=r 132 [I .u64 m,Z (.ptr n 0),Z (.ptr (n+2) 0),Z (.ptr (n+3) 0)] u:=fun r m u=>Ln XM
   have R7:∀ (u:St) (a:Nat) (bad:Bool) (most:Nat),vm s u x bs a bad->most<2 ^ 63->∃ t,R (d+9) 132 [I .u64 (most:Nat),Z (.ptr n 0),Z (.ptr (n+2) 0),Z (.ptr (n+3) 0)] u=some (I .i64 ((mH bs most a bad).1:Nat),t)/\vm s t x bs (mH bs most a bad).2.1 (mH bs most a bad).2.2/\t.size=u.size ∧
    ∀ b,b≠n+2->b≠n+3->t.get b=u.get b:=fun u a bad most hc hm=>by
    have:=Ju (d+7) hc hx eQ hl most hm
    rw [← hn] at this
    exact this
   obtain ⟨bM,qG,GX,Z7,KR⟩:=R7 s9 1 false 1073741824 P5 (by decide)
   obtain ⟨P,hP⟩:∃ P,P=mH bs 1073741824 1 false:=⟨_,rfl⟩
   rw [← hP] at qG GX
   obtain ⟨bO,NA⟩:∃ bO,bO=bM.push (.cells true (cE bE)):=⟨_,rfl⟩
   have Fi:aL bM (bb [.int .i64 0,.int .i64 0,.int .i64 0,.int .i64 0,.int .i64 0,.int .i64 0,.int .u32 0,.str []])=some (Z (.ptr (n+4) 0),bO):=by rw [NA,show n+4=bM.size by omega];rfl
   have g11:Gr bM bO:=by rw [NA];exact Gr.push GX.gr.wf _
   have VK:bO.size=n+5:=by rw [NA];simp;omega
   have GP:bO.get (n+4)=some (.cells true (cE bE)):=by rw [NA,show n+4=bM.size by omega];exact St.aq _ _
   obtain ⟨e0,B9⟩:∃ e0:bA,e0={ bE with k:=c0.toNat,v:=(P.1:Nat) }:=⟨_,rfl⟩
   have PN:aU (aG [.int .i64 0,.int .i64 0,.int .i64 0,.int .i64 0,.int .i64 0,.int .i64 0,.int .u32 0,.str []] [(0,1,I .i64 (c0.toNat:Int)),(1,1,I .i64 ((P.1:Nat):Int))])=some (AE e0):=by rw [B9];rfl
   obtain ⟨bW,tN⟩:∃ bW,bW=bO.set (n+4) (.cells true (cE e0)):=⟨_,rfl⟩
   have yC:=jB (e:=e0) GP rfl
   rw [← tN] at yC
   have Tz:vm s bW x bs P.2.1 P.2.2:=by rw [tN];exact (GX.kY g11).set (by omega) (by omega) _
   have z12:bW.size=n+5:=by rw [tN];simpa using VK
   have PU:bW.get (n+4)=some (.cells true (cE e0)):=by rw [tN];exact St.ar _ _ _
   have Cf:∀ (q:T) (v:S),ab q s9.get=some (Z v)->(∀ b o,q=Z (.ptr b o)->b<s.size\/b=n)->ab q (rP bM.get bM.size (.cells true [.int .i64 0,.int .i64 0,.int .i64 0,.int .i64 0,.int .i64 0,.int .i64 0,.int .u32 0,.str []]))=ab q s9.get:=by
    intro q v hq hb
    cases q with
    | any=>cases hq
    | eF _=>cases hq
    | v w=>cases w with
      | agg _=>cases hq
      | s w=>cases w with
        | ptr b o =>
          have hb':=hb b o rfl
          have e1:rP bM.get bM.size (.cells true [.int .i64 0,.int .i64 0,.int .i64 0,.int .i64 0,.int .i64 0,.int .i64 0,.int .u32 0,.str []]) b=s9.get b:=by
           rw [iy _ _ (by omega)]
           exact KR b (by omega) (by omega)
          simp only [ab,e1]
        | _=>cases hq
   have KD:=Cf (Z (.ptr n 0)) x RZ (fun b o e=>by cases e;exact .inr rfl)
   have SK:=Cf p0 (.int .u8 c0.toNat) Pw (fun b o e=>by
    subst e
    rcases rx9.rd with ⟨h0,_⟩ | ⟨c,o',cap,w,rows,rfl,_⟩
    · omega
    · have h2:=eQ c rfl
      simp only [av] at Gc
      split at Gc
      · cases Gc;exact .inl h2
      · cases Gc)
   have tK:ab (Z (.ptr (n+4) 0)) bW.get=some (I .i64 (c0.toNat:Int)):=ai PU (by rw [B9];rfl)
   have w0:IntKind.i64.wrap (c0.toNat:Int)=(c0.toNat:Int):=aE _ (by have:=c0.toNat_lt;omega) (by have:=c0.toNat_lt;omega)
   have hne:¬ ((bs.length:Int)=0):=by omega
   have ct:B3 bs=match bX bs c0 with
    | none=>none
    | some (e,bad)=>if bad=false/\cY e=some bs then some e else none:=by rw [KM];rfl
   rw [← KM,ct]
   have Ge:∀ (u:St) (a:Nat) (bad:Bool) (e:bA) (most:Nat),(vm s u x bs a bad/\u.size=n+5/\u.get (n+4)=some (.cells true (cE e)))->most<2 ^ 63->∃ t,R (d+9) 132 [I .u64 (most:Nat),Z (.ptr n 0),Z (.ptr (n+2) 0),Z (.ptr (n+3) 0)] u=some (I .i64 ((mH bs most a bad).1:Nat),t) ∧
    (vm s t x bs (mH bs most a bad).2.1 (mH bs most a bad).2.2/\t.size=n+5/\t.get (n+4)=some (.cells true (cE e))):=fun u a bad e most hq hm=>by
    obtain ⟨t,e1,c1,z,k⟩:=R7 u a bad most hq.1 hm
    exact ⟨t,e1,c1,by rw [z];exact hq.2.1,by rw [k _ (by omega) (by omega)];exact hq.2.2⟩
   have Gm:∀ (u:St) (a:Nat) (bad:Bool) (e e':bA) (off:Nat) (val:S),(vm s u x bs a bad/\u.size=n+5/\u.get (n+4)=some (.cells true (cE e)))->aO (cE e) off [val]=cE e'->off<8->∃ t,aw 1 (Z (.ptr (n+4) off)) (Z val) u=some (tt,t) ∧
    (vm s t x bs a bad/\t.size=n+5/\t.get (n+4)=some (.cells true (cE e'))):=fun u a bad e e' off val hq hs ho=>by
    have st:=aW (x:=val) hq.2.2 (by simpa [cE] using ho)
    rw [hs] at st
    exact ⟨_,st,hq.1.set (by omega) (by have:=hq.2.1;omega) _,by simpa using hq.2.1,St.ar _ _ _⟩
   have xM:∀ (u:St) (a:Nat) (bad:Bool) (e:bA),(vm s u x bs a bad/\u.size=n+5/\u.get (n+4)=some (.cells true (cE e)))->pb e->∃ τ,kx (R (d+9)) [Z (.ptr n 0),Z (.ptr (n+1) 0),Z (.ptr (n+3) 0),Z (.ptr (n+4) 0)] u=some (CK (if bad=false/\cY e=some bs then some e else none),τ)/\Gr s τ:=fun u a bad e hq hw=>by
    have:=Ko d hq.1 hx eQ (by rw [← hn];exact hq.2.1) (by rw [← hn];exact hq.2.2) hw
    rw [← hn] at this
    exact this
   have W5:vm s bW x bs P.2.1 P.2.2/\bW.size=n+5/\bW.get (n+4)=some (.cells true (cE e0)):=⟨Tz,z12,PU⟩
   have KQ:pb e0:=by rw [B9];exact ⟨Int.le_refl 0,(by decide:(0:Int)<4294967296)⟩
   obtain ⟨C,hC⟩:∃ C,C=(c0.toNat:Int):=⟨_,rfl⟩
   rw [← hC] at Pw PN tK w0
   simp only [az] at hlen
   have vJ:=hx.tU
   have hnd:¬ bs=[]:=fun e=>by rw [e] at hpos;simp at hpos
   by_cases k1:c0.toNat=1
   · have d1:decide (C=1)=true:=decide_eq_true (by omega)
     obtain ⟨dX,Bg,uL⟩:=Ge bW _ _ _ 1073741824 W5 (by decide)
     obtain ⟨I1,TZ⟩:∃ I1,I1=mH bs 1073741824 P.2.1 P.2.2:=⟨_,rfl⟩
     rw [← TZ] at Bg uL
     obtain ⟨fR,KH,Oy⟩:=Ge dX _ _ _ 4 uL (by decide)
     obtain ⟨T1,hT1⟩:∃ T1,T1=mH bs 4 I1.2.1 I1.2.2:=⟨_,rfl⟩
     rw [← hT1] at KH Oy
     obtain ⟨gv,TA,q15⟩:=Gm fR _ _ _ { e0 with i:=(I1.1:Nat) } 2 (.int .i64 (I1.1:Nat)) Oy rfl (by omega)
     obtain ⟨fV,TB,ZC⟩:=Gm gv _ _ _ { e0 with i:=(I1.1:Nat),t:=(T1.1:Nat) } 3 (.int .i64 (T1.1:Nat)) q15 rfl (by omega)
     obtain ⟨iI,TC,Vo⟩:=Ge fV _ _ _ 1099511627776 ZC (by decide)
     obtain ⟨F1,hF1⟩:∃ F1,F1=mH bs 1099511627776 T1.2.1 T1.2.2:=⟨_,rfl⟩
     rw [← hF1] at TC Vo
     obtain ⟨gV,TD,ZD⟩:=Ge iI _ _ _ 1099511627776 Vo (by decide)
     obtain ⟨O1,hO1⟩:∃ O1,O1=mH bs 1099511627776 F1.2.1 F1.2.2:=⟨_,rfl⟩
     rw [← hO1] at TD ZD
     obtain ⟨mf,Wa,q19⟩:=Gm gV _ _ _ { e0 with i:=(I1.1:Nat),t:=(T1.1:Nat),f:=(F1.1:Nat) } 4 (.int .i64 (F1.1:Nat)) ZD rfl (by omega)
     obtain ⟨mg,TE,q20⟩:=Gm mf _ _ _ { e0 with i:=(I1.1:Nat),t:=(T1.1:Nat),f:=(F1.1:Nat),o:=(O1.1:Nat) } 5 (.int .i64 (O1.1:Nat)) q19 rfl (by omega)
     obtain ⟨kU,P6,Vp⟩:=Ge mg _ _ _ 4294967295 q20 (by decide)
     obtain ⟨U1,XD⟩:∃ U1,U1=mH bs 4294967295 O1.2.1 O1.2.2:=⟨_,rfl⟩
     have Dr:U1.1<=4294967295:=by rw [XD];exact Jy
     rw [← XD] at P6 Vp
     have wU:IntKind.u32.wrap (U1.1:Int)=(U1.1:Int):=by rw [wrap32];omega
     obtain ⟨iZ,e22,W7⟩:=Gm kU _ _ _ { e0 with i:=(I1.1:Nat),t:=(T1.1:Nat),f:=(F1.1:Nat),o:=(O1.1:Nat),u:=(U1.1:Nat) } 6 (.int .u32 (U1.1:Nat)) Vp rfl (by omega)
     obtain ⟨τ,et,gt⟩:=xM iZ _ _ _ W7 ⟨by show (0:Int)<=(U1.1:Nat);omega,by show ((U1.1:Nat):Int)<4294967296;omega⟩
     have hres:bX bs c0=some ({ e0 with i:=(I1.1:Nat),t:=(T1.1:Nat),f:=(F1.1:Nat),o:=(O1.1:Nat),u:=(U1.1:Nat) },U1.2.2):=by
      unfold bX
      rw [if_pos k1]
      simp only [← hP,← TZ,← hT1,← hF1,← hO1,← XD,B9]
     rw [hres]
     refine ⟨τ,?_,gt⟩
     clear Ge Gm xM R7 Cf uL Oy q15 ZC Vo ZD q19 q20 Vp W7
     generalize CK (if U1.2.2=false/\cY { e0 with i:=(I1.1:Nat),t:=(T1.1:Nat),f:=(F1.1:Nat),o:=(O1.1:Nat),u:=(U1.1:Nat) }=some bs then some { e0 with i:=(I1.1:Nat),t:=(T1.1:Nat),f:=(F1.1:Nat),o:=(O1.1:Nat),u:=(U1.1:Nat) } else none)=Xh at *
     unfold kx at et
     generalize R (d+9)=r at *
     generalize ((P.1:Nat):Int)=PV at *
     generalize ((I1.1:Nat):Int)=IV at *
     generalize ((T1.1:Nat):Int)=TV at *
     generalize ((F1.1:Nat):Int)=FV at *
     generalize ((O1.1:Nat):Int)=OV at *
     generalize ((U1.1:Nat):Int)=UV at *
     have xG:r 132 [I .u64 1073741824,Z (.ptr n 0),Z (.ptr (n+2) 0),Z (.ptr (n+3) 0)] s9=some (I .i64 PV,bM):=qG
     have BQ:r 132 [I .u64 1073741824,Z (.ptr n 0),Z (.ptr (n+2) 0),Z (.ptr (n+3) 0)] bW=some (I .i64 IV,dX):=Bg
     have Xo:r 132 [I .u64 4,Z (.ptr n 0),Z (.ptr (n+2) 0),Z (.ptr (n+3) 0)] dX=some (I .i64 TV,fR):=KH
     have Xp:r 132 [I .u64 1099511627776,Z (.ptr n 0),Z (.ptr (n+2) 0),Z (.ptr (n+3) 0)] fV=some (I .i64 FV,iI):=TC
     have Xq:r 132 [I .u64 1099511627776,Z (.ptr n 0),Z (.ptr (n+2) 0),Z (.ptr (n+3) 0)] iI=some (I .i64 OV,gV):=TD
     have Xr:r 132 [I .u64 4294967295,Z (.ptr n 0),Z (.ptr (n+2) 0),Z (.ptr (n+3) 0)] mg=some (I .i64 UV,kU):=P6
     simpa [cZ,wz,lW,vJ,hnd,Tg,DM,yV,Gl,iY,RZ,Gc,Pw,w0,dy,xG,PN,Fi,yC,KD,SK,tK,d1,BQ,Xo,TA,TB,Xp,Xq,Wa,TE,Xr,wU,e22] using et
   · have d1:decide (C=1)=false:=decide_eq_false (by omega)
     by_cases k2:c0.toNat=2
     · have d2:decide (C=2)=true:=decide_eq_true (by omega)
       obtain ⟨dX,Bg,uL⟩:=Ge bW _ _ _ 1073741824 W5 (by decide)
       obtain ⟨I1,TZ⟩:∃ I1,I1=mH bs 1073741824 P.2.1 P.2.2:=⟨_,rfl⟩
       rw [← TZ] at Bg uL
       obtain ⟨fR,KH,Oy⟩:=Gm dX _ _ _ { e0 with i:=(I1.1:Nat) } 2 (.int .i64 (I1.1:Nat)) uL rfl (by omega)
       obtain ⟨τ,et,gt⟩:=xM fR _ _ _ Oy KQ
       have hres:bX bs c0=some ({ e0 with i:=(I1.1:Nat) },I1.2.2):=by
        unfold bX
        rw [if_neg k1,if_pos k2]
        simp only [← hP,← TZ,B9]
       rw [hres]
       refine ⟨τ,?_,gt⟩
       clear Ge Gm xM R7 Cf uL Oy
       generalize CK (if I1.2.2=false/\cY { e0 with i:=(I1.1:Nat) }=some bs then some { e0 with i:=(I1.1:Nat) } else none)=Xh at *
       unfold kx at et
       generalize R (d+9)=r at *
       generalize ((P.1:Nat):Int)=PV at *
       generalize ((I1.1:Nat):Int)=IV at *
       have xG:r 132 [I .u64 1073741824,Z (.ptr n 0),Z (.ptr (n+2) 0),Z (.ptr (n+3) 0)] s9=some (I .i64 PV,bM):=qG
       have BQ:r 132 [I .u64 1073741824,Z (.ptr n 0),Z (.ptr (n+2) 0),Z (.ptr (n+3) 0)] bW=some (I .i64 IV,dX):=Bg
       simpa [cZ,wz,lW,vJ,hnd,Tg,DM,yV,Gl,iY,RZ,Gc,Pw,w0,dy,xG,PN,Fi,yC,KD,SK,tK,d1,d2,BQ,KH] using et
     · have d2:decide (C=2)=false:=decide_eq_false (by omega)
       by_cases k4:c0.toNat=4
       · have d4:decide (C=4)=true:=decide_eq_true (by omega)
         obtain ⟨dX,Bg,uL⟩:=Ge bW _ _ _ 300 W5 (by decide)
         obtain ⟨M1,hM1⟩:∃ M1,M1=mH bs 300 P.2.1 P.2.2:=⟨_,rfl⟩
         have hMl:M1.1<=300:=by rw [hM1];exact Jy
         rw [← hM1] at Bg uL
         have hat:=uL.1.le
         have lb:ab (Z (.ptr (n+3) 0)) dX.get=some (B M1.2.2):=by rw [hn];exact ai uL.1.c5 rfl
         have lx:ab (Z (.ptr n 0)) dX.get=some (Z x):=by rw [hn];exact ai uL.1.c1 rfl
         have la:ab (Z (.ptr (n+2) 0)) dX.get=some (I .i64 (M1.2.1:Nat)):=by rw [hn];exact ai uL.1.c4 rfl
         have l2:dX.get (n+1)=some (.cells true (cE bE)):=by rw [hn];exact uL.1.c2
         have VJ:IntKind.i64.wrap ((bs.length:Int)-((M1.2.1:Nat):Int))=(bs.length:Int)-((M1.2.1:Nat):Int):=aE _ (by omega) (by omega)
         have Z2:IntKind.i64.wrap (((M1.2.1:Nat):Int)+((M1.1:Nat):Int))=((M1.2.1+M1.1:Nat):Int):=by rw [aE _ (by omega) (by omega)];omega
         have xG:R (d+9) 132 [I .u64 1073741824,Z (.ptr n 0),Z (.ptr (n+2) 0),Z (.ptr (n+3) 0)] s9=some (I .i64 ((P.1:Nat):Int),bM):=qG
         have BQ:R (d+9) 132 [I .u64 300,Z (.ptr n 0),Z (.ptr (n+2) 0),Z (.ptr (n+3) 0)] bW=some (I .i64 ((M1.1:Nat):Int),dX):=Bg
         by_cases jR:M1.2.2=true\/bs.length<M1.2.1+M1.1
         · have hres:bX bs c0=none:=by
            unfold bX
            rw [if_neg k1,if_neg k2,if_pos k4]
            simp only [← hP,← hM1]
            rw [if_pos jR]
           rw [hres]
           have st:=jB (e:=bE) l2 rfl
           have ld:=c7 (g:=(dX.set (n+1) (.cells true (cE bE))).get) (i:=n+1) (e:=bE) (St.ar _ _ _)
           refine ⟨dX.set (n+1) (.cells true (cE bE)),?_,⟨St.wf_set uL.1.gr.wf (by have:=uL.2.1;omega) _,by simpa using uL.1.gr.2.1,fun b hb=>by rw [St.aj _ _ (by omega)];exact uL.1.gr.2.2 b hb⟩⟩
           clear Ge Gm xM R7 Cf uL
           generalize dX.set (n+1) (.cells true (cE bE))=fR at *
           generalize R (d+9)=r at *
           cases iE:M1.2.2 with
           | true =>
             rw [iE] at lb
             generalize ((P.1:Nat):Int)=PV at *
             generalize ((M1.1:Nat):Int)=MV at *
             simp [cZ,wz,lW,vJ,hnd,Tg,DM,yV,Gl,iY,RZ,Gc,Pw,w0,dy,xG,PN,Fi,yC,KD,SK,tK,d1,d2,d4,BQ,lb,kN,BD,st,ld,rC,rT,aQ,bK]
           | false =>
             rw [iE] at lb jR
             have hgt:(bs.length:Int)-((M1.2.1:Nat):Int)<((M1.1:Nat):Int):=by
              rcases jR with h | h
              · cases h
              · omega
             have dgt:decide ((bs.length:Int)-((M1.2.1:Nat):Int)<((M1.1:Nat):Int))=true:=decide_eq_true hgt
             generalize ((P.1:Nat):Int)=PV at *
             generalize ((M1.1:Nat):Int)=MV at *
             generalize ((M1.2.1:Nat):Int)=AV at *
             simp [cZ,wz,lW,vJ,hnd,Tg,DM,yV,Gl,iY,RZ,Gc,Pw,w0,dy,xG,PN,Fi,yC,KD,SK,tK,d1,d2,d4,BQ,lb,lx,la,VJ,hgt,BD,st,ld,rC,rT,aQ,bK]
         · have iE:M1.2.2=false:=by
            cases h:M1.2.2 with
            | false=>rfl
            | true=>exact absurd (.inl h) jR
           have hle:M1.2.1+M1.1<=bs.length:=by
            apply Nat.le_of_not_lt
            exact fun h=>jR (.inr h)
           have hgt:¬ ((bs.length:Int)-((M1.2.1:Nat):Int)<((M1.1:Nat):Int)):=by omega
           rw [iE] at lb
           have ZV:RB dX x bs:=hx.gr eQ uL.1.gr
           obtain ⟨y,pc,ry,_⟩:=ZV.piece (lo:=M1.2.1) (hi:=M1.2.1+M1.1) (by omega) hle
           have hpl:M1.2.1+M1.1-M1.2.1=M1.1:=by omega
           rw [hpl,Nat.mul_one,Nat.mul_one,xf,j6] at ry
           have ry':RB dX y ((bs.drop M1.2.1).take M1.1):=by
            have:((bs.drop M1.2.1).take M1.1).length=M1.1:=by rw [List.length_take,List.length_drop];omega
            unfold RB
            rw [this]
            exact ry
           have YN:=ry'.str
           obtain ⟨fR,KH,Oy⟩:=Gm dX _ _ _ { e0 with x:=(bs.drop M1.2.1).take M1.1 } 7 (.str ((bs.drop M1.2.1).take M1.1)) uL rfl (by omega)
           obtain ⟨τ,et,gt⟩:=xM fR _ _ _ Oy KQ
           have hres:bX bs c0=some ({ e0 with x:=(bs.drop M1.2.1).take M1.1 },M1.2.2):=by
            unfold bX
            rw [if_neg k1,if_neg k2,if_pos k4]
            simp only [← hP,← hM1]
            rw [if_neg jR,B9]
           rw [hres]
           refine ⟨τ,?_,gt⟩
           clear Ge Gm xM R7 Cf uL Oy
           generalize CK (if M1.2.2=false/\cY { e0 with x:=(bs.drop M1.2.1).take M1.1 }=some bs then some { e0 with x:=(bs.drop M1.2.1).take M1.1 } else none)=Xh at *
           unfold kx at et
           generalize R (d+9)=r at *
           generalize (bs.drop M1.2.1).take M1.1=XX at *
           generalize ((P.1:Nat):Int)=PV at *
           generalize ((M1.2.1+M1.1:Nat):Int)=BV at *
           generalize ((M1.1:Nat):Int)=MV at *
           generalize ((M1.2.1:Nat):Int)=AV at *
           simpa [cZ,wz,lW,vJ,hnd,Tg,DM,yV,Gl,iY,RZ,Gc,Pw,w0,dy,xG,PN,Fi,yC,KD,SK,tK,d1,d2,d4,BQ,lb,lx,la,VJ,hgt,Z2,pc,YN,KH] using et
       · have d4:decide (C=4)=false:=decide_eq_false (by omega)
         obtain ⟨τ,et,gt⟩:=xM bW _ _ _ W5 KQ
         have hres:bX bs c0=some (e0,P.2.2):=by
          unfold bX
          rw [if_neg k1,if_neg k2,if_neg k4]
          simp only [← hP,B9]
         rw [hres]
         refine ⟨τ,?_,gt⟩
         clear Ge Gm xM R7 Cf
         generalize CK (if P.2.2=false/\cY e0=some bs then some e0 else none)=Xh at *
         unfold kx at et
         generalize R (d+9)=r at *
         generalize ((P.1:Nat):Int)=PV at *
         have xG:r 132 [I .u64 1073741824,Z (.ptr n 0),Z (.ptr (n+2) 0),Z (.ptr (n+3) 0)] s9=some (I .i64 PV,bM):=qG
         simpa [cZ,wz,lW,vJ,hnd,Tg,DM,yV,Gl,iY,RZ,Gc,Pw,w0,dy,xG,PN,Fi,yC,KD,SK,tK,d1,d2,d4] using et
end
theorem rB (n:Nat):∀ a b:Bs,bT n (a++b)=bT (bT n a) b
 | [],b=>rfl
 | c::a,b=>rB _ a b
def aZ (bs:Bs):Bs:=aP bs.length++four (bT 1 (aP bs.length++bs))++bs
def eE (bs:Bs) (at_:Nat):Option (Bs×Nat):=match jW bs at_ with
 | none=>none
 | some (n,to)=>if bs.length<to+4\/bs.length-to-4<n then none else
   if (bs.drop at_).take (to+4+n-at_)=aZ ((bs.drop (to+4)).take n) then some ((bs.drop (to+4)).take n,to+4+n) else none
def eH (e:bA):Option Bs:=if cd e then some (aZ (bj e)) else none
def aF:List bA->Bs
 | []=>[]
 | e::r=>aZ (bj e)++aF r
def m9 (bs:Bs):Nat->Nat->List bA->List bA×Nat
 | 0,at_,acc=>(acc,at_)
 | f+1,at_,acc=>match eE bs at_ with
   | none=>(acc,at_)
   | some (x,to)=>match B3 x with
     | none=>(acc,at_)
     | some e=>m9 bs f to (acc++[e])
def kT (bs:Bs):List bA×Nat:=m9 bs 2000 0 []
abbrev RE (s:St) (x:S) (l:List bA):Prop:=Rd 8 s x l.length (cells cE l)
abbrev FE (s0 s:St) (x:S) (l:List bA):Prop:=Fr 8 s0 s x l.length (cells cE l)
section
variable {s t:St} {x y:S} {bs cs:Bs} {i:Nat} {l m:List bA}
theorem RE.VR (h:RE s x l) {j:Nat} {n:Int} {e:bA} (hn:n=j) (he:l[j]? = some e):∃ p,av 8 (Z x) (I .i64 n)=some p/\aH 8 p s.get=some (AE e):=by
 obtain ⟨c,p,h1,_,h3⟩:=Rd.at h hn (List.getElem?_eq_some_iff.1 he).1
 rw [jL GW he] at h3
 exact ⟨_,h1,h3⟩
theorem FE.lit {s0:St} {e:bA} (h:FE s0 s x l) (hl:l.length<=1000000) :
 ∃ x' t s',aL s (aS 1 (aG [.int .i64 0,.int .i64 0,.int .i64 0,.int .i64 0,.int .i64 0,.int .i64 0,.int .u32 0,.str []] [(0,8,AE e)]))=some (Z (.sl s.size 0 1 (.known 1)),s')/\aJ 8 72 (Z x) (Z (.sl s.size 0 1 (.known 1))) s'=some (Z x',t)/\FE s0 t x' (l++[e])/\s.size<=t.size:=by
 have L:=Fr.lit 8 h.gr.1 (n:=1) (vs:=cells cE [e]) (by simp [cE])
 obtain ⟨x',t,e1,f,hz,k⟩:=(h.kY L.gr).append (by_:=72) (by omega) L.rd.src (by simp [cE]) (by omega)
 refine ⟨x',t,_,rfl,e1,?_,Nat.le_trans L.gr.2.1 hz⟩
 unfold FE
 rw [fD,List.length_append]
 exact f
theorem Jq (d:Nat) {q0:Nat} (UC:q0<4294967291) (h:RB s x bs) (hl:bs.length<=8000):R (d+1) 174 [I .u32 (q0:Nat),Z x] s=some (I .u32 (bT q0 bs),s):=by
 rw [zD]
 unfold f174
 have eo:=h.tU
 obtain ⟨j,τ,lp,hj,ph⟩:=aV (f:=ku (R d) 8192) (fun q v u=>∃ k n:Nat,q+k=bs.length/\v=[I .u64 n,Z x,I .i64 bs.length,I .i64 k]/\u=s/\n<4294967291/\bT n (bs.drop k)=bT q0 bs)
  (fun j u=>j = .exit 0 [I .u64 (bT q0 bs)]/\u=s) (by
  rintro q v u ⟨k,n,hk,rfl,rfl,hn,hg⟩
  by_cases eZ:k<bs.length
  · left
    have hc:bs[k]? = some bs[k]:=List.getElem?_eq_getElem eZ
    have hd:bs.drop k=bs[k]::bs.drop (k+1):=List.drop_eq_getElem_cons eZ
    rw [hd] at hg
    obtain ⟨p,ix,ld⟩:=h.En (n:=(k:Int)) rfl hc
    have Rp:bs[k].toNat<256:=bs[k].toNat_lt
    obtain ⟨A1,A2,A3,A4,TY,m1,m2,m3,m4⟩:∃ A1 A2 A3 A4:Int,A4=(((n*257+bs[k].toNat+1)%4294967291:Nat):Int)/\af .mul (I .u64 n) (I .u64 257)=some (I .u64 A1)/\af .add (I .u64 A1) (I .u64 bs[k].toNat)=some (I .u64 A2) ∧
     af .add (I .u64 A2) (I .u64 1)=some (I .u64 A3)/\af .rem (I .u64 A3) (I .u64 4294967291)=some (I .u64 A4):=⟨_,_,_,_,rfl,PG.step n bs[k].toNat hn Rp u⟩
    have hw:IntKind.u64.wrap (bs[k].toNat:Int)=(bs[k].toNat:Int):=wrap64 _ (by omega)
    have w1:IntKind.i64.wrap ((k:Int)+1)=((k+1:Nat):Int):=by rw [aE _ (by omega) (by omega)];omega
    have c0:((k:Int)<(bs.length:Int))=True:=eq_true (by omega)
    refine ⟨[I .u64 (((n*257+bs[k].toNat+1)%4294967291:Nat)),Z x,I .i64 bs.length,I .i64 ((k+1:Nat):Int)],u,q-1,?_,by omega,k+1,_,by omega,rfl,rfl,Nat.mod_lt _ (by decide),hg⟩
    unfold ku
    generalize ((k+1:Nat):Int)=K1 at w1 ⊢
    rw [← TY]
    generalize (bs[k].toNat:Int)=C at m2 ld hw
    generalize (k:Int)=K at w1 ix c0 ⊢
    simp only [p9,fC,List.getD_cons_zero,List.getD_cons_succ,xZ,jf,decide_true,c0,ix,ld,m1,m2,m3,m4,aY,hw,dH,w1]
  · right
    have hk':k=bs.length:=by omega
    have c0:¬ ((k:Int)<(bs.length:Int)):=by omega
    have vI:n=bT q0 bs:=by
     rw [List.drop_eq_nil_of_le (by omega)] at hg
     exact hg
    refine ⟨.exit 0 [I .u64 (bT q0 bs)],u,?_,(fun v hv=>by cases hv),rfl,rfl⟩
    unfold ku
    rw [vI]
    simp [c0]) 8192 bs.length [I .u64 (q0:Nat),Z x,I .i64 bs.length,I .i64 0] s ⟨0,q0,rfl,rfl,rfl,UC,rfl⟩ (by omega)
 subst hj;subst ph
 have hlt:=kG bs q0 UC
 have Rb:IntKind.u32.wrap (bT q0 bs:Int)=(bT q0 bs:Int):=by rw [wrap32,Nat.mod_eq_of_lt (by omega)]
 have e1:aI .u64 (I .u32 (q0:Nat))=some (I .u64 (q0:Nat)):=by rw [aY,wrap64 _ (by omega)]
 have e2:af .rem (I .u64 (q0:Nat)) (I .u64 4294967291)=some (I .u64 (q0:Nat)):=by
  rw [sx _ _ _ (by decide),Int.tmod_eq_emod_of_nonneg (by omega),Int.emod_eq_of_lt (by omega) (by omega)]
 simp [e1,e2,eo,lp,Rb]
theorem NZ (d:Nat) (wf:s.wf) (q:Nat):∃ y t,R (d+1) 173 [I .u32 q] s=some (Z y,t)/\FB s t y (four q):=by
 rw [HD]
 unfold f173
 have nw:=R1 s (q%256) (q / 2 ^ 8%256) (q / 2 ^ 16%256) (q / 2 ^ 24%256)
 have hU:U (four q)=[.int .u8 (q%256:Nat),.int .u8 (q / 2 ^ 8%256:Nat),.int .u8 (q / 2 ^ 16%256:Nat),.int .u8 (q / 2 ^ 24%256:Nat)]:=by
  simp only [U,four,List.map_cons,List.map_nil,ed]
 rw [← hU] at nw
 have c0:=fP q
 have c1:=fP (q / 2 ^ 8)
 have c2:=fP (q / 2 ^ 16)
 have c3:=fP (q / 2 ^ 24)
 have r1:af .shr (I .u32 q) (I .u64 8)=some (I .u32 ((q / 2 ^ 8:Nat))):=eX .u32 q 8 (by decide)
 have r2:af .shr (I .u32 q) (I .u64 16)=some (I .u32 ((q / 2 ^ 16:Nat))):=eX .u32 q 16 (by decide)
 have r3:af .shr (I .u32 q) (I .u64 24)=some (I .u32 ((q / 2 ^ 24:Nat))):=eX .u32 q 24 (by decide)
 refine ⟨_,_,?_,Fr.lit 1 wf (n:=4) (vs:=U (four q)) rfl⟩
 generalize s.push (.cells true (U (four q)))=t at nw ⊢
 generalize ((q / 2 ^ 8%256:Nat):Int)=Q1 at nw c1
 generalize ((q / 2 ^ 16%256:Nat):Int)=Q2 at nw c2
 generalize ((q / 2 ^ 24%256:Nat):Int)=Q3 at nw c3
 generalize ((q%256:Nat):Int)=Q0 at nw c0
 generalize ((q / 2 ^ 8:Nat):Int)=P1 at r1 c1
 generalize ((q / 2 ^ 16:Nat):Int)=P2 at r2 c2
 generalize ((q / 2 ^ 24:Nat):Int)=P3 at r3 c3
 generalize (q:Int)=Q at *
 simp [c0,c1,c2,c3,r1,r2,r3,nw]
def bU:List Bs->Nat
 | []=>0
 | b::r=>b.length+bU r
theorem qO:∀ l:List Bs,l.flatten.length=bU l
 | []=>rfl
 | b::r=>by simp [bU,qO r]
theorem lX:∀ (l:List Bs) (b:Bs),bU (l++[b])=bU l+b.length
 | [],b=>by simp [bU]
 | a::r,b=>by simp [bU,lX r b];omega
theorem qP (l:List Bs) (k:Nat):bU (l.take k)<=bU l:=by
 induction l generalizing k with
 | nil=>simp [bU]
 | cons a r ih =>
   cases k with
   | zero=>simp [bU]
   | succ k=>have:=ih k;simp [bU];omega
theorem BK (d:Nat) (wf:s.wf) {ys:List S} {bss:List Bs} (hx:Rd 1 s x ys.length ys) (eQ:∀ c,own x=some c->c<s.size) (hlen:ys.length=bss.length) (hys:∀ (j:Nat) y b,ys[j]? = some y->bss[j]? = some b->RB s y b/\∀ c,own y=some c->c<s.size)
 (h0:0<bU bss) (hT:bU bss<=100000) (hl:ys.length<=100):∃ z t,R (d+2) 172 [Z x] s=some (Z z,t)/\FB s t z bss.flatten:=by
 rw [HC]
 unfold f172
 have eo:=hx.lens
 obtain ⟨j,τ,lp,hj,ph⟩:=aV (f:=rW (R (d+1)) 8192) (fun q v u=>∃ k:Nat,q+k=ys.length/\v=[Z x,I .i64 (bU (bss.take k):Nat),Z x,I .i64 ys.length,I .i64 k]/\u=s)
  (fun j u=>j = .exit 0 [Z x,I .i64 (bU bss:Nat)]/\u=s) (by
  rintro q v u ⟨k,hk,rfl,rfl⟩
  by_cases eZ:k<ys.length
  · left
    have hc:ys[k]? = some ys[k]:=List.getElem?_eq_getElem eZ
    have hb:bss[k]? = some (bss[k]'(by omega)):=List.getElem?_eq_getElem (by omega)
    obtain ⟨p,ix,ld⟩:=Rd.yJ hx (i:=(k:Int)) rfl hc
    obtain ⟨ry,_⟩:=hys k _ _ hc hb
    have Dz:=ry.tU
    have lh:bss.take (k+1)=bss.take k++[bss[k]'(by omega)]:=by rw [List.take_add_one,hb];rfl
    have h1:=qP bss (k+1)
    have hs:bU (bss.take (k+1))=bU (bss.take k)+(bss[k]'(by omega)).length:=by rw [lh,lX]
    have c0:(k:Int)<(ys.length:Int):=by omega
    have w1:IntKind.i64.wrap ((k:Int)+1)=((k+1:Nat):Int):=by rw [aE _ (by omega) (by omega)];omega
    have wa:IntKind.i64.wrap ((bU (bss.take k):Nat)+((bss[k]'(by omega)).length:Int))=((bU (bss.take (k+1)):Nat):Int):=by rw [aE _ (by omega) (by omega)];omega
    have c1:¬ ((bU (bss.take (k+1)):Nat):Int)<0:=by omega
    refine ⟨[Z x,I .i64 (bU (bss.take (k+1)):Nat),Z x,I .i64 ys.length,I .i64 ((k+1:Nat):Int)],u,q-1,?_,by omega,k+1,by omega,rfl,rfl⟩
    unfold rW
    generalize ((k+1:Nat):Int)=K1 at w1 ⊢
    generalize ((bU (bss.take (k+1)):Nat):Int)=S1 at wa c1 ⊢
    generalize ((bU (bss.take k):Nat):Int)=S0 at wa ⊢
    generalize ((bss[k]'(by omega)).length:Int)=B1 at *
    generalize (k:Int)=K at *
    generalize (ys.length:Int)=L at *
    simp [c0,ix,ld,Dz,wa,c1,w1]
  · right
    have hk':k=ys.length:=by omega
    subst hk'
    rw [hlen,List.take_length]
    refine ⟨.exit 0 [Z x,I .i64 (bU bss:Nat)],u,?_,(fun v hv=>by cases hv),rfl,rfl⟩
    unfold rW
    simp) 8192 ys.length [Z x,I .i64 0,Z x,I .i64 ys.length,I .i64 0] s ⟨0,rfl,by simp [bU],rfl⟩ (by omega)
 subst ph;subst hj
 obtain ⟨TN,hTd⟩:∃ TN,TN=bU bss:=⟨_,rfl⟩
 rw [← hTd] at lp h0 hT
 obtain ⟨s1,hs1⟩:∃ s1,s1=τ.push (.cells true (dn TN [.int .u8 0])):=⟨_,rfl⟩
 have g1:Gr τ s1:=by rw [hs1];exact Gr.push wf _
 have hg:R (d+1) 216 [Z .ay,I .i64 (TN:Nat)] τ=some (Z (.sl τ.size 0 0 (.grown 1)),s1):=by
  rw [HV]
  unfold f216
  have c0:¬ ((TN:Nat):Int)<0:=by omega
  have c1:(0:Int)<((TN:Nat):Int):=by omega
  have w0:IntKind.i64.wrap 0=0:=rfl
  have wT:IntKind.i64.wrap ((TN:Nat):Int)=((TN:Nat):Int):=aE _ (by omega) (by omega)
  have cap:zc (Z .ay)=some (I .i64 0):=rfl
  have pc0:aB 1 (Z .ay) none (some (I .i64 0)) none=some (Z .ay):=rfl
  have gr:lG 1 1 [.int .u8 0] (Z .ay) (I .i64 ((TN:Nat):Int)) τ=some (Z (.sl τ.size 0 TN (.grown 1)),s1):=by
   simp only [lG,Int.toNat_natCast,hs1]
   rw [if_pos ⟨c1,by omega,by decide⟩]
  have pc1:aB 1 (Z (.sl τ.size 0 TN (.grown 1))) none (some (I .i64 0)) none=some (Z (.sl τ.size 0 0 (.grown 1))):=by
   unfold aB
   dsimp only
   rw [if_pos rfl,show (I .i64 0:T)=I .i64 ((0:Nat):Int) from rfl,dZ (Nat.zero_le _)]
   dsimp only
   rw [if_pos h0]
  generalize ((TN:Nat):Int)=TT at *
  simp [c0,cap,w0,wT,c1,pc0,gr,pc1]
 have f1:FB τ s1 (.sl τ.size 0 0 (.grown 1)) []:=by
  refine ⟨g1,⟨by simp,.inr (.inr ⟨τ.size,dn TN [.int .u8 0],_,rfl,.inl rfl,by rw [hs1];exact St.aq _ _,by simp,by simp [U]⟩)⟩,fun c hc=>by cases hc;exact ⟨Nat.le_refl _,by rw [hs1];simp⟩⟩
 obtain ⟨j,σ,KT,z,rfl,fz⟩:=aV (f:=rX (R (d+1)) 8192) (fun q v u=>∃ (k:Nat) (z:S),q+k=ys.length/\v=[Z z,Z x,I .i64 ys.length,I .i64 k]/\FB τ u z (bss.take k).flatten)
  (fun j u=>∃ z,j = .exit 2 [Z z]/\FB τ u z bss.flatten) (by
  rintro q v u ⟨k,z,hk,rfl,hf⟩
  by_cases eZ:k<ys.length
  · left
    have hc:ys[k]? = some ys[k]:=List.getElem?_eq_getElem eZ
    have hb:bss[k]? = some (bss[k]'(by omega)):=List.getElem?_eq_getElem (by omega)
    obtain ⟨p,ix,ld⟩:=Rd.yJ (hx.gr eQ hf.gr) (i:=(k:Int)) rfl hc
    obtain ⟨ry,oy⟩:=hys k _ _ hc hb
    have lh:bss.take (k+1)=bss.take k++[bss[k]'(by omega)]:=by rw [List.take_add_one,hb];rfl
    have h1:=qP bss (k+1)
    have hs:bU (bss.take (k+1))=bU (bss.take k)+(bss[k]'(by omega)).length:=by rw [lh,lX]
    have c0:(k:Int)<(ys.length:Int):=by omega
    have w1:IntKind.i64.wrap ((k:Int)+1)=((k+1:Nat):Int):=by rw [aE _ (by omega) (by omega)];omega
    obtain ⟨z',u',ap,Cb,_⟩:=FB.app hf (Rd.gr ry oy hf.gr) (by rw [qO];omega)
    refine ⟨[Z z',Z x,I .i64 ys.length,I .i64 ((k+1:Nat):Int)],u',q-1,?_,by omega,k+1,z',by omega,rfl,by rw [lh,List.flatten_append];simpa using Cb⟩
    unfold rX
    generalize ((k+1:Nat):Int)=K1 at w1 ⊢
    generalize (k:Int)=K at *
    generalize (ys.length:Int)=L at *
    simp [c0,ix,ld,ap,w1]
  · right
    have hk':k=ys.length:=by omega
    subst hk'
    rw [hlen,List.take_length] at hf
    refine ⟨.exit 2 [Z z],u,?_,(fun v hv=>by cases hv),z,rfl,hf⟩
    unfold rX
    simp) 8192 ys.length [Z (.sl τ.size 0 0 (.grown 1)),Z x,I .i64 ys.length,I .i64 0] s1 ⟨0,_,by omega,rfl,by simpa using f1⟩ (by omega)
 refine ⟨z,σ,?_,fz⟩
 simp [eo,lp,hg,KT]
theorem Bb (d:Nat) (wf:s.wf) (h:RB s x bs) (eQ:∀ c,own x=some c->c<s.size) (hl:bs.length<=8000):∃ z t,R (d+3) 131 [Z x] s=some (Z z,t)/\FB s t z (aZ bs):=by
 rw [Ho]
 unfold f131
 have eo:=h.tU
 have w0:IntKind.u64.wrap (bs.length:Int)=(bs.length:Int):=wrap64 _ (by omega)
 obtain ⟨y1,s1,e1,f1⟩:=fO (d+1) wf bs.length (by omega)
 have hvl:=bF bs.length
 have e2:=D4 d f1.rd (by omega)
 have hlt:=kG (aP bs.length) 1 (by decide)
 have rx1:RB s1 x bs:=h.gr eQ f1.gr
 have e3:=Jq (d+1) hlt rx1 hl
 obtain ⟨y4,s4,e4,f4⟩:=NZ (d+1) f1.gr.wf (bT (bT 1 (aP bs.length)) bs)
 have g4:=f1.gr.trans f4.gr
 obtain ⟨s5,hs5⟩:∃ s5,s5=s4.push (.cells true [y1,y4,x]):=⟨_,rfl⟩
 have nw:aL s4 (aS 3 (aG [.ay,.ay,.ay] [(0,1,Z y1),(1,1,Z y4),(2,1,Z x)]))=some (Z (.sl s4.size 0 3 (.known 3)),s5):=by rw [hs5];rfl
 have L:=Fr.lit 1 g4.wf (n:=3) (vs:=[y1,y4,x]) rfl
 rw [← hs5] at L
 have g5:=g4.trans L.gr
 have r1:RB s5 y1 (aP bs.length):=(f1.rd.gr (fun c hc=>(f1.new c hc).2) f4.gr).gr (fun c hc=>Nat.lt_of_lt_of_le (f1.new c hc).2 f4.gr.2.1) L.gr
 have r4:RB s5 y4 (four (bT (bT 1 (aP bs.length)) bs)):=f4.rd.gr (fun c hc=>(f4.new c hc).2) L.gr
 have rx:RB s5 x bs:=h.gr eQ g5
 have hpos:0<(aP bs.length).length:=by unfold aP mV;split<;>simp
 obtain ⟨z,t,e6,f6⟩:=BK d L.gr.wf (ys:=[y1,y4,x]) (bss:=[aP bs.length,four (bT (bT 1 (aP bs.length)) bs),bs]) L.rd (fun c hc=>(L.new c hc).2) rfl (fun j y b hy hb=>by
  have z5:s4.size<=s5.size:=L.gr.2.1
  match j with
  | 0=>simp at hy hb;subst hy;subst hb;exact ⟨r1,fun c hc=>by have:=(f1.new c hc).2;have:=f4.gr.2.1;omega⟩
  | 1=>simp at hy hb;subst hy;subst hb;exact ⟨r4,fun c hc=>by have:=(f4.new c hc).2;omega⟩
  | 2=>simp at hy hb;subst hy;subst hb;exact ⟨rx,fun c hc=>by have:=eQ c hc;have:=g5.2.1;omega⟩
  | j+3=>simp at hy) (by simp [bU];omega) (by simp [bU,four];omega) (by simp)
 have hw:[aP bs.length,four (bT (bT 1 (aP bs.length)) bs),bs].flatten=aZ bs:=by simp [aZ,rB]
 rw [hw] at f6
 refine ⟨z,t,?_,f6.from g5⟩
 simp only [Nat.add_assoc,Nat.reduceAdd] at e1 e3 e4
 generalize (bs.length:Int)=BL at *
 simp [eo,w0,e1,e2,e3,e4,nw,e6]
end
section
variable {s t:St} {x y:S} {bs cs:Bs} {i:Nat} {l m:List bA}
theorem qy (b:Bs):(aZ b).length<=b.length+15:=by
 have:=bF b.length
 simp [aZ,four]
 omega
theorem EN {bs:Bs} {at_:Nat}:∀ (f k n:Nat) {r:Nat×Nat},ot bs at_ f k n=some r->r.2<=at_+k+f:=by
 intro f
 induction f with
 | zero=>intro k n r h;cases h
 | succ f ih =>
   intro k n r h
   unfold ot at h
   split at h
   · cases h
   · split at h
     · cases h
     · split at h
       · have:=ih _ _ h
         omega
       · split at h
         · cases h
         · cases h
           show at_+k+1<=_
           omega
theorem Ii {bs:Bs} {at_ n to:Nat} (h:jW bs at_=some (n,to)):to<=at_+10:=by
 unfold jW at h
 split at h
 · have:=EN _ _ _ h
   simpa using this
 · cases h
abbrev ZS (y:S) (at_:Nat) (o:Option (Bs×Nat)):T:=match o with
 | some (p,e) => .eF [.s y,.s (.int .i64 (e:Nat)),.s (.bool true)]
 | none => .eF [.s .ay,.s (.int .i64 (at_:Nat)),.s (.bool false)]
theorem JH (d:Nat) (wf:s.wf) (h:RB s x bs) (eQ:∀ c,own x=some c->c<s.size) (hl:bs.length<=100000) {at_:Nat} (ha:at_<=bs.length) (vP:∀ n to,jW bs at_=some (n,to)->bs.length-to-4<n\/n<=7900) :
 ∃ y t,R (d+4) 93 [Z x,I .i64 (at_:Nat)] s=some (ZS y at_ (eE bs at_),t)/\Gr s t/\∀ p e,eE bs at_=some (p,e)->RB t y p/\(∀ c,own y=some c->c<t.size)/\e<=bs.length/\p.length<=7900:=by
 rw [M9]
 unfold f93
 have eo:=h.tU
 have e1:=o8 (d+2) h hl (at_:=at_) (by omega)
 simp only [Nat.add_assoc,Nat.reduceAdd] at e1
 cases hv:jW bs at_ with
 | none =>
   rw [hv] at e1
   simp only [uF,if_pos ha] at e1
   have ho:eE bs at_=none:=by unfold eE;rw [hv]
   rw [ho]
   refine ⟨.ay,s,?_,Gr.refl wf,fun p e hh=>by cases hh⟩
   simp [e1,ah,kN,aQ,bK]
 | some p =>
   obtain ⟨n,to⟩:=p
   rw [hv] at e1
   simp only [uF] at e1
   obtain ⟨II,YQ⟩:=sI hv
   have YK:=vP n to hv
   have w1:IntKind.i64.wrap ((bs.length:Int)-((to:Nat):Int))=(bs.length:Int)-((to:Nat):Int):=aE _ (by omega) (by omega)
   by_cases c1:bs.length<to+4
   · have ho:eE bs at_=none:=by unfold eE;rw [hv];simp only;rw [if_pos (.inl c1)]
     rw [ho]
     have k1:(bs.length:Int)-((to:Nat):Int)<4:=by omega
     refine ⟨.ay,s,?_,Gr.refl wf,fun p e hh=>by cases hh⟩
     simp [e1,ah,eo,w1,k1,kN,aQ,bK]
   · have k1:¬ (bs.length:Int)-((to:Nat):Int)<4:=by omega
     have w2:IntKind.i64.wrap ((bs.length:Int)-((to:Nat):Int)-4)=(bs.length:Int)-((to:Nat):Int)-4:=aE _ (by omega) (by omega)
     have w3:IntKind.u64.wrap ((bs.length:Int)-((to:Nat):Int)-4)=(bs.length:Int)-((to:Nat):Int)-4:=cq _ (by omega) (by omega)
     by_cases c2:bs.length-to-4<n
     · have ho:eE bs at_=none:=by unfold eE;rw [hv];simp only;rw [if_pos (.inr c2)]
       rw [ho]
       have k2:(bs.length:Int)-((to:Nat):Int)-4<((n:Nat):Int):=by omega
       refine ⟨.ay,s,?_,Gr.refl wf,fun p e hh=>by cases hh⟩
       simp [e1,ah,eo,w1,k1,w2,w3,k2,aQ,bK]
     · have k2:¬ (bs.length:Int)-((to:Nat):Int)-4<((n:Nat):Int):=by omega
       have w4:IntKind.i64.wrap (((to:Nat):Int)+4)=((to+4:Nat):Int):=by rw [aE _ (by omega) (by omega)];omega
       have w5:IntKind.i64.wrap ((n:Nat):Int)=((n:Nat):Int):=aE _ (by omega) (by omega)
       have w6:IntKind.i64.wrap (((to+4:Nat):Int)+((n:Nat):Int))=((to+4+n:Nat):Int):=by rw [aE _ (by omega) (by omega)];omega
       have piece:∀ lo hi:Nat,lo<=hi->hi<=bs.length->∃ y,aB 1 (Z x) (some (I .i64 (lo:Nat))) (some (I .i64 (hi:Nat))) none=some (Z y)/\RB s y ((bs.drop lo).take (hi-lo))/\(own y=none\/own y=own x):=fun lo hi h1 h2=>by
        obtain ⟨y,a,b,c⟩:=Rd.piece h (lo:=lo) (hi:=hi) h1 h2
        refine ⟨y,a,?_,c⟩
        rw [Nat.mul_one,Nat.mul_one,xf,j6] at b
        have:((bs.drop lo).take (hi-lo)).length=hi-lo:=by rw [List.length_take,List.length_drop];omega
        unfold RB
        rw [this]
        exact b
       obtain ⟨y1,p1,r1,o1⟩:=piece (to+4) (to+4+n) (by omega) (by omega)
       obtain ⟨y2,p2,r2,o2⟩:=piece at_ (to+4+n) (by omega) (by omega)
       rw [show to+4+n-(to+4)=n by omega] at r1
       have hn7:n<=7900:=YK.resolve_left c2
       have hpl:((bs.drop (to+4)).take n).length<=7900:=by rw [List.length_take];omega
       have S8:∀ c,own y1=some c->c<s.size:=fun c hc=>by
        rcases o1 with e | e
        · rw [e] at hc;cases hc
        · rw [e] at hc;exact eQ c hc
       have S9:∀ c,own y2=some c->c<s.size:=fun c hc=>by
        rcases o2 with e | e
        · rw [e] at hc;cases hc
        · rw [e] at hc;exact eQ c hc
       obtain ⟨z,t,e3,f3⟩:=Bb d wf r1 S8 (by omega)
       have r2':RB t y2 ((bs.drop at_).take (to+4+n-at_)):=r2.gr S9 f3.gr
       have eq:R (d+3) 130 [Z y2,Z z] t=some (B (decide ((bs.drop at_).take (to+4+n-at_)=aZ ((bs.drop (to+4)).take n))),t):=by
        by_cases Pc:((bs.drop at_).take (to+4+n-at_)).length<=8000
        · exact EE (d+2) r2' f3.rd Pc
        · exfalso
          rw [List.length_take,List.length_drop] at Pc
          have:=Ii hv
          omega
       have hop:eE bs at_=if (bs.drop at_).take (to+4+n-at_)=aZ ((bs.drop (to+4)).take n) then some ((bs.drop (to+4)).take n,to+4+n) else none:=by
        unfold eE
        rw [hv]
        simp only
        rw [if_neg (fun hh=>hh.elim c1 c2)]
       rw [hop]
       by_cases he:(bs.drop at_).take (to+4+n-at_)=aZ ((bs.drop (to+4)).take n)
       · rw [if_pos he]
         rw [decide_eq_true he] at eq
         refine ⟨y1,t,?_,f3.gr,fun p e hh=>by
          cases hh
          exact ⟨r1.gr S8 f3.gr,fun c hc=>Nat.lt_of_lt_of_le (S8 c hc) f3.gr.2.1,by omega,hpl⟩⟩
         show _=some (T.eF [.s y1,.s (.int .i64 ((to+4+n:Nat):Int)),.s (.bool true)],t)
         generalize ((to+4+n:Nat):Int)=E1 at *
         generalize ((to+4:Nat):Int)=E0 at *
         generalize R (d+3)=r at *
         simp [e1,ah,eo,w1,k1,w2,w3,k2,w4,w5,w6,p1,p2,e3,eq,aQ,bK]
       · rw [if_neg he]
         rw [decide_eq_false he] at eq
         refine ⟨y1,t,?_,f3.gr,fun p e hh=>by cases hh⟩
         generalize ((to+4+n:Nat):Int)=E1 at *
         generalize ((to+4:Nat):Int)=E0 at *
         generalize R (d+3)=r at *
         simp [e1,ah,eo,w1,k1,w2,w3,k2,w4,w5,w6,p1,p2,e3,eq,aQ,bK]
abbrev qo (y:S) (o:Option Bs):T:=match o with
 | some b => .eF [.s y,.s (.int .i64 0)]
 | none => .eF [.s .ay,.s (.int .i64 1)]
theorem pO (d:Nat) (wf:s.wf) (e:bA) (hw:pb e):∃ y t,R (d+10) 95 [AE e] s=some (qo y (eH e),t)/\Gr s t/\∀ b,eH e=some b->FB s t y b:=by
 rw [Nb]
 unfold f95
 obtain ⟨s1,hs1⟩:∃ s1,s1=s.push (.cells true (cE e)):=⟨_,rfl⟩
 have cZ:aL s (cf (AE e))=some (Z (.ptr s.size 0),s1):=by rw [hs1];rfl
 have g1:Gr s s1:=by rw [hs1];exact Gr.push wf _
 have h1:s1.get s.size=some (.cells true (cE e)):=by rw [hs1];exact St.aq _ _
 have l8:=c7 (g:=s1.get) h1
 cases hm:cd e with
 | false =>
   obtain ⟨s2,e2,g2⟩:=DS d g1.wf hm
   have hf:eH e=none:=by simp [eH,hm]
   rw [hf]
   refine ⟨.ay,s2,?_,g1.trans g2,fun b hb=>by cases hb⟩
   simp [cZ,l8,e2,ah,aQ,bK]
 | true =>
   obtain ⟨y,s2,e2,f2⟩:=DT d g1.wf hm hw
   obtain ⟨z,s3,e3,f3⟩:=Bb (d+6) f2.gr.wf f2.rd (fun c hc=>(f2.new c hc).2) (by have:=ui (qh hm);omega)
   have hf:eH e=some (aZ (bj e)):=by simp [eH,hm]
   rw [hf]
   refine ⟨z,s3,?_,(g1.trans f2.gr).trans f3.gr,fun b hb=>by cases hb;exact f3.from (g1.trans f2.gr)⟩
   simp only [Nat.add_assoc,Nat.reduceAdd] at e3
   simp [cZ,l8,e2,ah,e3,aQ,bK]
theorem iP {e:bA} {b:Bs} (h:eH e=some b):b.length<=415:=by
 unfold eH at h
 split at h
 · rename_i hm
   cases h
   have:=ui (qh hm)
   have:=qy (bj e)
   omega
 · cases h
theorem ij:∀ (l:List bA) (e:bA),aF (l++[e])=aF l++aZ (bj e)
 | [],e=>by simp [aF]
 | a::r,e=>by simp [aF,ij r e]
theorem GN {l:List bA} (k:Nat) (h:l.all cd=true):(l.take k).all cd=true:=by
 rw [List.all_eq_true] at h ⊢
 exact fun x hx=>h x (List.mem_of_mem_take hx)
theorem qI:∀ l:List bA,l.all cd=true->(aF l).length<=415*l.length
 | [],_=>by simp [aF]
 | e::r,h=>by
   simp only [List.all_cons,Bool.and_eq_true] at h
   have h1:=qI r h.2
   have h2:(aZ (bj e)).length<=415:=iP (e:=e) (by simp [eH,h.1])
   simp [aF]
   omega
end
section
variable {s t:St} {x y:S} {bs cs:Bs} {i:Nat} {l m:List bA}
theorem JG {a e:Nat} {p:Bs} (h:eE bs a=some (p,e)):e<=bs.length:=by
 unfold eE at h
 split at h
 · cases h
 · split at h
   · cases h
   · split at h
     · cases h;omega
     · cases h
abbrev Vz (y:S) (p:List bA×Nat):T := .eF [.s y,.s (.int .i64 (p.2:Nat))]
theorem J4 (d:Nat) (wf:s.wf) (h:RB s x bs) (eQ:∀ c,own x=some c->c<s.size) (hl:bs.length<=100000) (V:Nat->Prop) (v0:V 0) (v1:∀ a p e,V a->eE bs a=some (p,e)->V e)
 (v2:∀ a n to,V a->jW bs a=some (n,to)->bs.length-to-4<n\/n<=7900) :
 ∃ y t,R (d+11) 43 [Z x] s=some (Vz y (kT bs),t)/\FE s t y (kT bs).1:=by
 rw [MF]
 unfold f43
 obtain ⟨j,τ,lp,z,hj,f⟩:=aV (f:=pJ (R (d+10)) 8192) (fun q v u=>∃ (at_:Nat) (z:S) (acc:List bA),q+acc.length=2000/\v=[Z x,Z z,I .i64 (at_:Nat)]/\FE s u z acc/\V at_/\at_<=bs.length/\m9 bs q at_ acc=kT bs)
  (fun j u=>∃ z,j = .exit 0 [Z z,I .i64 ((kT bs).2:Nat)]/\FE s u z (kT bs).1) (by
  rintro q v u ⟨at_,z,acc,hq,rfl,f,hv,ha,hr⟩
  have eo:=f.rd.lens
  by_cases hc:acc.length<2000
  · obtain ⟨q',rfl⟩:∃ q',q=q'+1:=⟨q-1,by omega⟩
    obtain ⟨y,u1,e1,g1,o1⟩:=JH (d+6) f.gr.wf (h.gr eQ f.gr) (fun c hc=>Nat.lt_of_lt_of_le (eQ c hc) f.gr.2.1) hl ha (fun n to=>v2 at_ n to hv)
    simp only [Nat.add_assoc,Nat.reduceAdd] at e1
    have c0:((acc.length:Nat):Int)<2000:=by omega
    unfold m9 at hr
    cases ho:eE bs at_ with
    | none =>
      rw [ho] at e1 hr
      right
      refine ⟨.exit 0 [Z z,I .i64 (at_:Nat)],u1,?_,(fun v hv=>by cases hv),z,?_,?_⟩
      · unfold pJ
        generalize ((acc.length:Nat):Int)=L at *
        generalize ((at_:Nat):Int)=A at *
        generalize R (d+10)=r at *
        simp [eo,c0,e1,ah,kN]
      · rw [← hr]
      · rw [← hr];exact f.kY g1
    | some pe =>
      obtain ⟨p,e⟩:=pe
      rw [ho] at e1 hr
      simp only at hr
      obtain ⟨ry,oy,he,hp⟩:=o1 p e ho
      obtain ⟨u2,e2,g2⟩:=Nh d g1.wf ry oy (by omega)
      obtain ⟨u3,IG⟩:∃ u3,u3=u2.push (.cells true (cE bE)):=⟨_,rfl⟩
      have b0:u3.get u2.size=some (.cells true (cE bE)):=by rw [IG];exact St.aq _ _
      have g3:Gr u2 u3:=by rw [IG];exact Gr.push g2.wf _
      have z3:u3.size=u2.size+1:=by rw [IG];simp
      have nw:aL u2 (bb [.int .i64 0,.int .i64 0,.int .i64 0,.int .i64 0,.int .i64 0,.int .i64 0,.int .u32 0,.str []])=some (Z (.ptr u2.size 0),u3):=by rw [IG];rfl
      have TW:∀ b:dV,Gr u2 (u3.set u2.size b):=fun b =>
       ⟨St.wf_set g3.wf (by omega) _,by simpa using g3.2.1,fun c hc=>by rw [St.aj _ _ (by omega)];exact g3.2.2 c hc⟩
      cases hg:B3 p with
      | none =>
        rw [hg] at e2 hr
        have st:=jB (e:=bE) b0 rfl
        right
        refine ⟨.exit 0 [Z z,I .i64 (at_:Nat)],u3.set u2.size (.cells true (cE bE)),?_,(fun v hv=>by cases hv),z,?_,?_⟩
        rotate_left
        · rw [← hr]
        · rw [← hr];exact f.kY ((g1.trans g2).trans (TW _))
        · unfold pJ
          generalize ((acc.length:Nat):Int)=L at *
          generalize ((at_:Nat):Int)=A at *
          generalize ((e:Nat):Int)=E at *
          generalize R (d+10)=r at *
          simp [eo,c0,e1,ah,e2,nw,st,kN]
      | some en =>
        rw [hg] at e2 hr
        obtain ⟨w,hw⟩:∃ w,w=u3.set u2.size (.cells true (cE en)):=⟨_,rfl⟩
        have st:aw 8 (Z (.ptr u2.size 0)) (AE en) u3=some (tt,w):=by rw [hw];exact jB b0 rfl
        have ld:aH 8 (Z (.ptr u2.size 0)) w.get=some (AE en):=by rw [hw];exact c7 (St.ar _ _ _)
        have gw:Gr u2 w:=by rw [hw];exact TW _
        obtain ⟨z2,u5,u4,wz,ap,f5,_⟩:=FE.lit (e:=en) (f.kY ((g1.trans g2).trans gw)) (by omega)
        left
        refine ⟨[Z x,Z z2,I .i64 (e:Nat)],u5,q',?_,rfl,e,z2,acc++[en],by simp;omega,rfl,f5,v1 _ _ _ hv ho,he,hr⟩
        unfold pJ
        generalize ((acc.length:Nat):Int)=L at *
        generalize ((at_:Nat):Int)=A at *
        generalize R (d+10)=r at *
        simp [eo,c0,e1,ah,e2,nw,st,ld,wz,ap]
  · have UC:q=0:=by omega
    subst UC
    have c0:¬ ((acc.length:Nat):Int)<2000:=by omega
    right
    refine ⟨.exit 0 [Z z,I .i64 (at_:Nat)],u,?_,(fun v hv=>by cases hv),z,?_,?_⟩
    · unfold pJ
      generalize ((acc.length:Nat):Int)=L at *
      simp [eo,c0]
    · rw [← hr];rfl
    · rw [← hr];exact f) 8192 2000 [Z x,Z .ay,I .i64 0] s ⟨0,.ay,[],rfl,rfl,by exact Fr.nil 8 wf,v0,by omega,rfl⟩ (by omega)
 subst hj
 exact ⟨z,τ,by simp [lp,aQ,bK],f⟩
theorem Fw (d:Nat) (wf:s.wf) (h:RB s x bs) (eQ:∀ c,own x=some c->c<s.size) (hl:bs.length<=7900):∃ y t,R (d+11) 43 [Z x] s=some (Vz y (kT bs),t)/\FE s t y (kT bs).1 :=
 J4 d wf h eQ (by omega) (fun _=>True) trivial (fun _ _ _ _ _=>trivial) (fun a n to _ hv=>by
  by_cases c:bs.length-to-4<n
  · exact .inl c
  · exact .inr (by omega))
end
theorem tY (acc c k:Nat) (h:acc<2 ^ k):acc ||| c*2 ^ k=acc+c*2 ^ k:=by
 have:=Nat.two_pow_add_eq_or_of_lt h c
 rw [Nat.mul_comm] at this
 rw [Nat.or_comm,← this,Nat.add_comm]
theorem Vl (k:Nat):2 ^ (7*(k+1))=128*2 ^ (7*k):=by
 rw [Nat.mul_add,Nat.pow_add];omega
theorem EO {bs post:Bs} {at_:Nat}:∀ (f k m acc:Nat),f+k=10->m*2 ^ (7*k)<2 ^ 64->(k=0\/0<m)->acc<2 ^ (7*k)->bs.drop (at_+k)=mV f m++post →
 ot bs at_ f k acc=some (acc+m*2 ^ (7*k),at_+k+(mV f m).length):=by
 intro f
 induction f with
 | zero =>
   intro k m acc hf hm h0 ha hd
   obtain rfl:k=10:=by omega
   exfalso
   rcases h0 with h | h
   · omega
   · have:1*2 ^ 70<=m*2 ^ 70:=Nat.mul_le_mul_right _ h
     have e:2 ^ (7*10)=2 ^ 70:=rfl
     rw [e] at hm
     omega
 | succ f ih =>
   intro k m acc hf hm h0 ha hd
   have Wt:k=9->m<2:=by
    rintro rfl
    have e:2 ^ (7*9)=2 ^ 63:=rfl
    rw [e] at hm
    omega
   have ct:bs[at_+k]? = (bs.drop (at_+k))[0]? := by simp
   unfold ot
   by_cases hc:128<=m
   · have hp:mV (f+1) m=UInt8.ofNat (m%128+128)::mV f (m / 128):=by rw [mV,if_pos hc]
     rw [hp] at hd ⊢
     rw [ct,hd]
     have hb:(UInt8.ofNat (m%128+128)).toNat=m%128+128:=by rw [ed];omega
     simp only [List.cons_append,List.getElem?_cons_zero,hb]
     rw [if_neg (by rintro ⟨h,_⟩;have:=Wt h;omega),if_pos (by omega)]
     have h128:(m%128+128)%128=m%128:=by omega
     rw [h128,tY _ _ _ ha]
     have hmul:m*2 ^ (7*k)=m%128*2 ^ (7*k)+m / 128*2 ^ (7*(k+1)):=by
      rw [Vl,← Nat.mul_assoc,← Nat.add_mul]
      congr 1
      omega
     rw [ih (k+1) (m / 128) _ (by omega) (by omega) (.inr (by omega)) ?_ ?_]
     · rw [List.length_cons,hmul]
       congr 2<;>omega
     · rw [Vl]
       have:m%128*2 ^ (7*k)<=127*2 ^ (7*k):=Nat.mul_le_mul_right _ (by omega)
       omega
     · rw [← Nat.add_assoc,← List.drop_drop,hd];rfl
   · have hp:mV (f+1) m=[UInt8.ofNat m]:=by rw [mV,if_neg hc]
     rw [hp] at hd ⊢
     rw [ct,hd]
     have hb:(UInt8.ofNat m).toNat=m:=by rw [ed];omega
     simp only [List.cons_append,List.getElem?_cons_zero,hb]
     rw [if_neg (by rintro ⟨h,_⟩;have:=Wt h;omega),if_neg hc,if_neg (by omega),Nat.mod_eq_of_lt (by omega),tY _ _ _ ha]
     rfl
theorem mP {bs pre post:Bs} {n at_:Nat} (hb:bs=pre++(aP n++post)) (ha:at_=pre.length) (hn:n<2 ^ 64):jW bs at_=some (n,at_+(aP n).length):=by
 subst hb ha
 unfold jW
 rw [if_pos (by simp),EO (post:=post) 10 0 n 0 rfl (by simpa using hn) (.inl rfl) (by simp) (by simp [aP])]
 simp [aP]
theorem jj {bs pre post:Bs} {n at_ most:Nat} {bad:Bool} (hb:bs=pre++(aP n++post)) (ha:at_=pre.length) (hn:n<=most) (hm:most<2 ^ 64):mH bs most at_ bad=(n,at_+(aP n).length,bad):=by
 unfold mH
 rw [mP hb ha (by omega)]
 simp only [Nat.min_eq_left hn,Prod.mk.injEq,true_and]
 rw [decide_eq_false (by omega),Bool.or_false]
theorem EM {e:bA} (h:cd e=true) (hw:pb e):B3 (bj e)=some e:=by
 obtain ⟨v0,v1,k0,k1,h1,h2,h3,h4⟩:=er h
 have hput:cY e=some (bj e):=by unfold cY;rw [if_pos h]
 obtain ⟨w0,w1⟩:=hw
 have main:∃ c r,bj e=c::r/\bX (bj e) c=some (e,false):=by
  refine ⟨_,_,rfl,?_⟩
  have hkb:(UInt8.ofNat e.k.toNat).toNat=e.k.toNat:=by rw [ed];omega
  have hc1:bj e=[UInt8.ofNat e.k.toNat]++(aP e.v.toNat++(dE (dY e)++e.x)):=by simp [bj]
  have n1:=jj (most:=1073741824) (bad:=false) hc1 rfl (by omega) (by omega)
  have hv:((e.v.toNat:Nat):Int)=e.v:=Int.toNat_of_nonneg v0
  rcases (by omega:e.k=1\/e.k=2\/e.k=3\/e.k=4) with hk | hk | hk | hk
  · obtain ⟨hx,i0,i1,t0,t1,f0,f1,o1⟩:=h1 hk
    have hk':(UInt8.ofNat e.k.toNat).toNat=1:=by rw [hkb,hk];rfl
    have hn:dY e=[e.i.toNat,e.t.toNat,e.f.toNat,e.o.toNat,e.u.toNat]:=by simp [dY,hk]
    have c2:bj e=([UInt8.ofNat e.k.toNat]++aP e.v.toNat)++(aP e.i.toNat++(aP e.t.toNat++aP e.f.toNat++aP e.o.toNat++aP e.u.toNat)):=by simp [bj,hn,dE,hx]
    have c3:bj e=([UInt8.ofNat e.k.toNat]++aP e.v.toNat++aP e.i.toNat)++(aP e.t.toNat++(aP e.f.toNat++aP e.o.toNat++aP e.u.toNat)):=by simp [bj,hn,dE,hx]
    have c4:bj e=([UInt8.ofNat e.k.toNat]++aP e.v.toNat++aP e.i.toNat++aP e.t.toNat)++(aP e.f.toNat++(aP e.o.toNat++aP e.u.toNat)):=by simp [bj,hn,dE,hx]
    have c5:bj e=([UInt8.ofNat e.k.toNat]++aP e.v.toNat++aP e.i.toNat++aP e.t.toNat++aP e.f.toNat)++(aP e.o.toNat++aP e.u.toNat):=by simp [bj,hn,dE,hx]
    have c6:bj e=([UInt8.ofNat e.k.toNat]++aP e.v.toNat++aP e.i.toNat++aP e.t.toNat++aP e.f.toNat++aP e.o.toNat)++(aP e.u.toNat++[]):=by simp [bj,hn,dE,hx]
    have n2:=jj (most:=1073741824) (bad:=false) c2 rfl (by omega) (by omega)
    have n3:=jj (most:=4) (bad:=false) c3 rfl (by omega) (by omega)
    have n4:=jj (most:=1099511627776) (bad:=false) c4 rfl (by omega) (by omega)
    have n5:=jj (most:=1099511627776) (bad:=false) c5 rfl (by omega) (by omega)
    have n6:=jj (most:=4294967295) (bad:=false) c6 rfl (by omega) (by omega)
    simp only [List.length_append,List.length_cons,List.length_nil,Nat.zero_add] at n1 n2 n3 n4 n5 n6
    unfold bX
    simp only [hk',n1,n2,n3,n4,n5,n6,if_true]
    simp only [hv,Int.toNat_of_nonneg (show 0<=e.i by omega),Int.toNat_of_nonneg t0,Int.toNat_of_nonneg f0,Int.toNat_of_nonneg (show 0<=e.o by omega),Int.toNat_of_nonneg w0]
    obtain ⟨a1,a2,a3,a4,a5,a6,a7,a8⟩:=e
    simp only at hk hx
    subst hk hx
    rfl
  · have hk':(UInt8.ofNat e.k.toNat).toNat=2:=by rw [hkb,hk];rfl
    obtain ⟨q0,q1,q2⟩:=h2 hk
    have hn:dY e=[e.i.toNat]:=by simp [dY,hk]
    have c2:bj e=([UInt8.ofNat e.k.toNat]++aP e.v.toNat)++(aP e.i.toNat++e.x):=by simp [bj,hn,dE]
    have n2:=jj (most:=1073741824) (bad:=false) c2 rfl (by omega) (by omega)
    simp only [List.length_append,List.length_cons,List.length_nil,Nat.zero_add] at n1 n2
    unfold bX
    simp only [hk',n1,n2,if_true,if_neg (show ¬ (2:Nat)=1 by decide)]
    rw [hv,Int.toNat_of_nonneg (show 0<=e.i by omega)]
    obtain ⟨a1,a2,a3,a4,a5,a6,a7,a8⟩:=e
    simp only at hk
    subst hk
    obtain rfl:a4=0:=congrArg bA.t q2
    obtain rfl:a5=0:=congrArg bA.f q2
    obtain rfl:a6=0:=congrArg bA.o q2
    obtain rfl:a7=0:=congrArg bA.u q2
    obtain rfl:a8=[]:=congrArg bA.x q2
    rfl
  · have hk':(UInt8.ofNat e.k.toNat).toNat=3:=by rw [hkb,hk];rfl
    simp only [List.length_append,List.length_cons,List.length_nil,Nat.zero_add] at n1
    unfold bX
    simp only [hk',n1,if_neg (show ¬ (3:Nat)=1 by decide),if_neg (show ¬ (3:Nat)=2 by decide),if_neg (show ¬ (3:Nat)=4 by decide)]
    rw [hv]
    have q2:=(h3 hk).2
    obtain ⟨a1,a2,a3,a4,a5,a6,a7,a8⟩:=e
    simp only at hk
    subst hk
    simp only [bE,bA.mk.injEq] at q2
    obtain ⟨_,_,q3,q4,q5,q6,q7,q8⟩:=q2
    subst_vars
    rfl
  · have hk':(UInt8.ofNat e.k.toNat).toNat=4:=by rw [hkb,hk];rfl
    obtain ⟨x0,q2,_⟩:=h4 hk
    have hn:dY e=[e.x.length]:=by simp [dY,hk]
    have c2:bj e=([UInt8.ofNat e.k.toNat]++aP e.v.toNat)++(aP e.x.length++e.x):=by simp [bj,hn,dE]
    have n2:=jj (most:=300) (bad:=false) c2 rfl (by omega) (by omega)
    have hl:(bj e).length=1+(aP e.v.toNat).length+(aP e.x.length).length+e.x.length:=by rw [c2];simp;omega
    have hd:(bj e).drop (1+(aP e.v.toNat).length+(aP e.x.length).length)=e.x:=by
     rw [c2,← List.append_assoc,List.drop_left']
     simp
     omega
    simp only [List.length_append,List.length_cons,List.length_nil,Nat.zero_add] at n1 n2
    unfold bX
    simp only [hk',n1,n2,if_neg (show ¬ (4:Nat)=1 by decide),if_neg (show ¬ (4:Nat)=2 by decide),if_true]
    rw [if_neg (by rw [hl];simp),hd,List.take_length,hv]
    obtain ⟨a1,a2,a3,a4,a5,a6,a7,a8⟩:=e
    simp only at hk
    subst hk
    simp only [bE,bA.mk.injEq] at q2
    obtain ⟨_,_,q3,q4,q5,q6,q7,q8⟩:=q2
    subst_vars
    rfl
 obtain ⟨c,r,hb,hf⟩:=main
 unfold B3
 rw [hb]
 simp only
 rw [← hb,hf]
 simp [hput]
theorem nE {bs pre b post:Bs} {at_:Nat} (hb:bs=pre++(aZ b++post)) (ha:at_=pre.length) (hn:b.length<2 ^ 64):eE bs at_=some (b,at_+(aZ b).length):=by
 have hs:bs=pre++(aP b.length++(four (bT 1 (aP b.length++b))++b++post)):=by rw [hb];simp [aZ]
 have h4:∀ n,(four n).length=4:=fun _=>rfl
 have hl:bs.length=at_+(aP b.length).length+4+b.length+post.length:=by rw [hs,ha];simp [h4];omega
 have hw:(aZ b).length=(aP b.length).length+4+b.length:=by simp [aZ,h4];omega
 have hd:bs.drop at_=aZ b++post:=by rw [hb,ha,List.drop_left]
 have ER:bs.drop (at_+(aP b.length).length+4)=b++post:=by
  rw [hs,ha,show pre++(aP b.length++(four (bT 1 (aP b.length++b))++b++post))=(pre++aP b.length++four (bT 1 (aP b.length++b)))++(b++post) by simp]
  rw [List.drop_left']
  simp [h4]
  omega
 unfold eE
 rw [mP hs ha hn]
 simp only
 rw [if_neg (by omega),hd,ER,List.take_left,List.take_left' (by rw [hw];omega),if_pos rfl]
 congr 2
 omega
theorem Cu {bs p:Bs} {at_ e:Nat} (h:eE bs at_=some (p,e)):e=at_+(aZ p).length/\e<=bs.length/\∃ post,bs.drop at_=aZ p++post:=by
 have he:=JG h
 unfold eE at h
 split at h
 · cases h
 · rename_i n to hv
   have hlt:=sI hv
   split at h
   · cases h
   · split at h
     · rename_i hc heq
       cases h
       have h1:=List.take_append_drop (to+4+n-at_) (bs.drop at_)
       have hl:((bs.drop at_).take (to+4+n-at_)).length=to+4+n-at_:=by rw [List.length_take,List.length_drop];omega
       rw [heq] at hl h1
       exact ⟨by omega,he,_,h1.symm⟩
     · cases h
theorem C2 {p q r r':Bs} (h:aZ p++r=aZ q++r') (hp:p.length<2 ^ 64) (hq:q.length<2 ^ 64):p=q/\r=r':=by
 have h1:=nE (bs:=aZ p++r) (pre:=[]) (b:=p) (post:=r) (at_:=0) rfl rfl hp
 have h2:=nE (bs:=aZ p++r) (pre:=[]) (b:=q) (post:=r') (at_:=0) (by rw [h];rfl) rfl hq
 rw [h1] at h2
 have:p=q:=by cases h2;rfl
 subst this
 exact ⟨rfl,List.append_cancel_left h⟩
theorem ef:∀ l m:List bA,aF (l++m)=aF l++aF m
 | [],m=>rfl
 | e::r,m=>by simp [aF,ef r m]
theorem Af {e:bA} (h:cd e=true):(bj e).length<=400:=ui (qh h)
theorem oS {bs post:Bs}:∀ (l:List bA) (f:Nat) (pre:Bs) (acc:List bA),l.length<=f->l.all cd=true->(∀ e∈l,pb e)->bs=pre++(aF l++post) →
 m9 bs f pre.length acc=m9 bs (f-l.length) (pre.length+(aF l).length) (acc++l)
 | [],f,pre,acc,_,_,_,_=>by simp [aF]
 | e::r,f+1,pre,acc,hf,hm,hw,hb=>by
   simp only [List.all_cons,Bool.and_eq_true] at hm
   have hl:=Af hm.1
   have ho:=nE (bs:=bs) (pre:=pre) (at_:=pre.length) (b:=bj e) (post:=aF r++post) (by rw [hb];simp [aF]) rfl (by omega)
   rw [m9,ho]
   simp only [EM hm.1 (hw e (by simp))]
   have ih:=oS (bs:=bs) (post:=post) r f (pre++aZ (bj e)) (acc++[e]) (by simpa using hf) hm.2 (fun x hx=>hw x (by simp [hx])) (by rw [hb];simp [aF])
   rw [List.length_append] at ih
   rw [ih]
   simp [aF]
   congr 1
   omega
theorem CH {bs:Bs} {f at_:Nat} {acc:List bA} (h:eE bs at_=none):m9 bs f at_ acc=(acc,at_):=by
 cases f with
 | zero=>rfl
 | succ f=>rw [m9,h]
theorem yn {bs post:Bs} {l:List bA} (hl:l.length<=2000) (hm:l.all cd=true) (hw:∀ e∈l,pb e) (hb:bs=aF l++post) :
 kT bs=m9 bs (2000-l.length) (aF l).length l:=by
 have:=oS (bs:=bs) (post:=post) l 2000 [] [] hl hm hw hb
 simpa [kT] using this
theorem A8:∀ (l:List bA) (k:Nat),k<=(aF l).length->∃ j post,(aF l).take k=aF (l.take j)++post/\((∃ hj:j<l.length,∃ more,more≠[]/\post++more=aZ (bj l[j]))\/(j=l.length/\post=[]))
 | [],k,h=>⟨0,[],by simp [aF],.inr ⟨rfl,rfl⟩⟩
 | e::r,k,h=>by
   by_cases hk:(aZ (bj e)).length<=k
   · obtain ⟨j,post,h1,h2⟩:=A8 r (k-(aZ (bj e)).length) (by simp [aF] at h;omega)
     refine ⟨j+1,post,?_,?_⟩
     · simp only [aF,List.take_succ_cons]
       rw [List.take_append,List.take_of_length_le hk,h1,List.append_assoc]
     · rcases h2 with ⟨hj,m,h3,h4⟩ | ⟨h3,h4⟩
       · exact .inl ⟨by simpa using hj,m,h3,by simpa using h4⟩
       · exact .inr ⟨by simp [h3],h4⟩
   · refine ⟨0,(aZ (bj e)).take k,?_,.inl ⟨by simp,(aZ (bj e)).drop k,fun h0 => ?_,by simp [List.take_append_drop]⟩⟩
     · simp only [aF,List.take_zero,List.nil_append]
       rw [List.take_append_of_le_length (by omega)]
     · have:=congrArg List.length h0
       rw [List.length_drop] at this
       simp at this
       omega
theorem KA (p:Bs):p.length<=(aZ p).length:=by simp [aZ];omega
theorem Kr {l:List bA} (hm:l.all cd=true) (hw:∀ e∈l,pb e) (hl:l.length<=2000) {k:Nat} (hk:k<=(aF l).length) :
 ∃ j,j<=l.length/\kT ((aF l).take k)=(l.take j,(aF (l.take j)).length)/\(aF (l.take j)).length<=k/\(∀ hj:j<l.length,k<(aF (l.take j)).length+(aZ (bj l[j])).length)/\(j=l.length->k=(aF l).length):=by
 obtain ⟨j,post,h1,h2⟩:=A8 l k hk
 have hlen:k=(aF (l.take j)).length+post.length:=by
  have:=congrArg List.length h1
  rw [List.length_take,List.length_append] at this
  omega
 have hjl:j<=l.length:=by rcases h2 with ⟨hj,_⟩ | ⟨hj,_⟩<;>omega
 have hr:=yn (bs:=(aF l).take k) (l:=l.take j) (post:=post) (by rw [List.length_take];omega) (GN j hm) (fun e he=>hw e (List.mem_of_mem_take he)) h1
 have hno:eE ((aF l).take k) (aF (l.take j)).length=none:=by
  cases ho:eE ((aF l).take k) (aF (l.take j)).length with
  | none=>rfl
  | some pe =>
    obtain ⟨p,e⟩:=pe
    exfalso
    obtain ⟨Wp,Wq,post',hp⟩:=Cu ho
    rw [h1,List.drop_left] at hp
    rcases h2 with ⟨hj,more,hne,hq⟩ | ⟨_,rfl⟩
    · rw [hp] at hq
      have hme:cd l[j]=true:=by
       rw [List.all_eq_true] at hm
       exact hm _ (List.getElem_mem hj)
      have yO:=Af hme
      have Pr:=qy (bj l[j])
      have h3:=congrArg List.length hq
      rw [List.length_append,List.length_append] at h3
      have:=KA p
      have hf:=C2 (p:=p) (q:=bj l[j]) (r:=post'++more) (r':=[]) (by rw [List.append_nil,← hq,List.append_assoc]) (by omega) (by omega)
      exact hne (List.append_eq_nil_iff.1 hf.2).2
    · have:=congrArg List.length hp
      rw [List.length_append] at this
      have h4:(aZ p).length=0:=by simp at this;omega
      simp [aZ,four] at h4
 rw [CH hno] at hr
 refine ⟨j,hjl,hr,by omega,fun hj => ?_,fun hj => ?_⟩
 · rcases h2 with ⟨_,more,hne,hq⟩ | ⟨h,_⟩
   · rw [← hq,List.length_append]
     have:0<more.length:=List.length_pos_iff.2 hne
     omega
   · omega
 · rcases h2 with ⟨h,_⟩ | ⟨_,hp⟩
   · omega
   · rw [hp] at hlen
     rw [hj,List.take_length] at hlen
     simpa using hlen
abbrev zI:List S:=[.int .i64 0,.int .i64 0,.int .i64 0,.int .i64 0,.int .u32 0]
theorem zb {len cap lo hi m:Nat} (h:lo<=hi) (k:hi<=m) (l:m<=cap):da len cap (some (I .i64 lo)) (some (I .i64 hi)) (some (I .i64 m))=some (lo,hi,m):=by
 have e:∀ {a b:Nat},a<=b->nj (I .i64 a) b=some a:=fun {a b} h=>by
  have h1:(a:Int)<=(b:Int):=by omega
  simp [nj,h]
 delta da
 dsimp only
 rw [e l]
 dsimp only
 rw [e k]
 dsimp only
 rw [e h]
theorem EA:aM Tryz.prog (th 136 5 zI):=by
 refine zJ (qY Tryz.prog 8 1) ?_
 intro f ts σ r h
 unfold th at h
 split at h
 · cases h
 · rename_i hf
   have Cb:=Nat.eq_of_beq_eq_true hf
   subst Cb
   split at h
   · rename_i i o n q a b
     split at h
     · rename_i vs hb
       split at h
       · rename_i hd
         have ky:=of_decide_eq_true hd
         obtain ⟨rfl,ha,rfl,SV,hn,hv⟩:=ky
         cases h
         obtain ⟨k,rfl⟩:∃ k:Nat,a=k:=⟨a.toNat,by omega⟩
         refine ⟨i,o,n,5,n-1,_,_,_,rfl,hb,rfl,fun c hc => ?_⟩
         have hkn:k+1<=n:=by omega
         rw [Int.toNat_natCast]
         rw [(au rfl Tryz.func136 (by kernel_rfl)).trans (LI _ _ _ _ _ _)]
         unfold f136
         have ek:((k:Nat):Int)+1=((k+1:Nat):Int):=by omega
         rw [ek]
         have p1:aB 5 (Z (.sl i o n (.known c))) (some (I .i64 ((k:Nat):Int))) (some (I .i64 ((k+1:Nat):Int))) (some (I .i64 ((n:Nat):Int)))=some (Z (.sl i (if n=k then o else o+k*5) (k+1-k) (.known (n-k)))):=by
          simp only [aB,zb (show k<=k+1 by omega) hkn hc]
         have p2:aB 5 (Z (.sl i o n (.known c))) none (some (I .i64 ((k:Nat):Int))) none=some (Z (.sl i o k (.known c))):=by
          simp only [aB,dZ (show k<=c by omega),Nat.zero_mul,Nat.add_zero,ite_self,Nat.sub_zero]
         have p3:aB 5 (Z (.sl i o n (.known c))) (some (I .i64 ((k+1:Nat):Int))) none none=some (Z (.sl i (if c=k+1 then o else o+(k+1)*5) (n-(k+1)) (.known (c-(k+1))))):=by
          simp only [aB,dr hkn hc]
         have src:eY 5 (Z (.sl i (if c=k+1 then o else o+(k+1)*5) (n-(k+1)) (.known (c-(k+1))))) σ.get=some (n-(k+1),(vs.drop (o+(k+1)*5)).take ((n-1-k)*5)):=by
          by_cases hz:n-(k+1)=0
          · have:n-1-k=0:=by omega
            simp [eY,hz,this]
          · have h1:¬ c=k+1:=by omega
            have h2:o+(k+1)*5+(n-(k+1))*5<=vs.length:=by omega
            have h3:n-1-k=n-(k+1):=by omega
            simp only [eY,if_neg hz,if_neg h1,hb,if_pos h2,h3]
         obtain ⟨v1,II⟩:∃ v1,v1=aO vs (o+k*5) ((vs.drop (o+(k+1)*5)).take ((n-1-k)*5)):=⟨_,rfl⟩
         have hl1:v1.length=vs.length:=by rw [II,dR]
         have ap:aJ 5 40 (Z (.sl i o k (.known c))) (Z (.sl i (if c=k+1 then o else o+(k+1)*5) (n-(k+1)) (.known (c-(k+1))))) σ=some (Z (.sl i o (n-1) (.known c)),σ.set i (.cells true v1)):=by
          have h1:(n-1)*40<=140737488355328:=by omega
          have h2:n-1<=c:=by omega
          have h3:True/\o+k*5+(n-(k+1))*5<=vs.length:=⟨trivial,by omega⟩
          have h4:k+(n-(k+1))=n-1:=by omega
          simp only [aJ,src,if_neg (show ¬ (5:Nat)=0 by decide),hb,h4]
          rw [if_pos h1,if_pos h2,if_pos h3,II]
         have p4:aB 5 (Z (.sl i o (n-1) (.known c))) (some (I .i64 ((n-1:Nat):Int))) (some (I .i64 ((n:Nat):Int))) none=some (Z (.sl i (o+(n-1)*5) (n-(n-1)) (.known (c-(n-1))))):=by
          have h1:¬ c=n-1:=by omega
          simp only [aB,sM (show n-1<=n by omega) hc,if_neg h1]
         have cl:lF 5 zI (Z (.sl i (o+(n-1)*5) (n-(n-1)) (.known (c-(n-1))))) (σ.set i (.cells true v1))=some (tt,(σ.set i (.cells true v1)).set i (.cells true (aO v1 (o+(n-1)*5) zI))):=by
          have h1:n-(n-1)=1:=by omega
          have h2:o+(n-1)*5+1*5<=v1.length:=by omega
          simp only [lF,h1,if_neg (show ¬ (1:Nat)=0 by decide),St.ar,if_pos h2]
          rfl
         have le1:az (Z (.sl i o n (.known c)))=some (I .i64 ((n:Nat):Int)):=rfl
         have NV:az (Z (.sl i o (n-1) (.known c)))=some (I .i64 ((n-1:Nat):Int)):=rfl
         simp only [zI] at cl ⊢
         clear hc hn SV hv hkn ha
         have nk:¬ (((k:Nat):Int)=((k+1:Nat):Int)):=by omega
         rw [← II]
         generalize ((n-1:Nat):Int)=N1 at *
         generalize ((n:Nat):Int)=NN at *
         generalize ((k+1:Nat):Int)=K1 at *
         generalize ((k:Nat):Int)=K at *
         simp only [le1,NV,fC,p1,xI,decide_eq_false nk,jK,p2,p3,ap,iL,p4,cl]
       · cases h
     · cases h
   · cases h
theorem Oq:JL Tryz.prog 177=true:=by kernel_rfl
theorem I2 (a w b z:List S) (hz:z.length=w.length+b.length):aO (aO (a++z) a.length w) (a.length+w.length) b=a++w++b:=by
 rw [bZ (a++z) a.length w (by simp;omega),List.take_left,bZ _ _ b (by simp;omega)]
 rw [List.take_left' (by simp),List.drop_eq_nil_of_le (by simp;omega),List.append_nil]
theorem I3 (a w b r:List S) (hr:w.length<=r.length):(aO (aO (a++b++r) (a.length+w.length) b) a.length w).take (a.length+w.length+b.length)=a++w++b:=by
 have hX:∃ q,aO (a++b++r) (a.length+w.length) b=a++(q++b++r.drop w.length)/\q.length=w.length:=by
  refine ⟨(b++r).take w.length,?_,by simp;omega⟩
  rw [bZ _ _ b (by simp;omega),List.append_assoc a b r,List.take_append,List.drop_append]
  have e1:a.take (a.length+w.length)=a:=List.take_of_length_le (by omega)
  have e2:a.drop (a.length+w.length+b.length)=[]:=List.drop_eq_nil_of_le (by omega)
  have e3:a.length+w.length+b.length-a.length=b.length+w.length:=by omega
  rw [e1,e2,e3,Nat.add_sub_cancel_left,List.nil_append,List.drop_append,List.drop_eq_nil_of_le (by omega),List.nil_append,Nat.add_sub_cancel_left]
  simp only [List.append_assoc]
 obtain ⟨q,hq,hl⟩:=hX
 rw [hq,bZ _ _ w (by simp;omega),List.take_left,List.drop_append,List.drop_eq_nil_of_le (by omega),List.nil_append,Nat.add_sub_cancel_left,List.append_assoc q,List.drop_left' hl,← List.append_assoc (a++w),List.take_left' (by simp;omega)]
section
variable {σ:St} {i j p n k c:Nat} {vs us:List S}
theorem vS (hkn:k<n) (hn:n<=1000000) :
 af .eql (I .i64 1) (I .i64 0)=some (B false)/\af .eql (I .i64 ((k:Nat):Int)) (I .i64 ((n:Nat):Int))=some (B false)/\af .add (I .i64 ((n:Nat):Int)) (I .i64 1)=some (I .i64 ((n+1:Nat):Int)) ∧
  af .add (I .i64 ((k:Nat):Int)) (I .i64 1)=some (I .i64 ((k+1:Nat):Int))/\af .sub (I .i64 ((n+1:Nat):Int)) (I .i64 ((k:Nat):Int))=some (I .i64 ((n+1-k:Nat):Int)):=by
 have h1:¬ (((k:Nat):Int)=((n:Nat):Int)):=by omega
 have h2:IntKind.i64.wrap ((n:Int)+1)=((n+1:Nat):Int):=by rw [aE _ (by omega) (by omega)];omega
 have h3:IntKind.i64.wrap ((k:Int)+1)=((k+1:Nat):Int):=by rw [aE _ (by omega) (by omega)];omega
 have h4:IntKind.i64.wrap (((n+1:Nat):Int)-(k:Int))=((n+1-k:Nat):Int):=by rw [aE _ (by omega) (by omega)];omega
 refine ⟨rfl,?_,?_,?_,?_⟩
 · rw [xI,decide_eq_false h1]
 · rw [dH,h2]
 · rw [dH,h3]
 · rw [js,h4]
theorem IX (d:Nat) (wf:σ.wf) (hi:σ.get i=some (.cells true vs)) (hj:σ.get j=some (.cells true us)) (hkn:k<n) (hn:n<=1000000) (hv:n*5<=vs.length) (hij:i≠j) (hp:p+5<=us.length) :
 ∃ τ,f135 (eS Tryz.prog 8 nD d) 8 (Z (.sl i 0 n (.known n))) (I .i64 k) (Z (.sl j p 1 (.known 1))) σ=some (Z (.sl σ.size 0 (n+1) (.grown 5)),τ)/\τ.size=σ.size+1 ∧
   τ.get σ.size=some (.cells true (vs.take (k*5)++(us.drop p).take 5++(vs.drop (k*5)).take ((n-k)*5)))/\∀ b,b<σ.size->τ.get b=σ.get b:=by
 obtain ⟨f1,f2,f3,f4,f5⟩:=vS hkn hn
 obtain ⟨N,hN⟩:∃ N,N=σ.size:=⟨_,rfl⟩
 obtain ⟨a,ha⟩:∃ a,a=vs.take (k*5):=⟨_,rfl⟩
 obtain ⟨w,hw⟩:∃ w,w=(us.drop p).take 5:=⟨_,rfl⟩
 obtain ⟨b,hb⟩:∃ b,b=(vs.drop (k*5)).take ((n-k)*5):=⟨_,rfl⟩
 have hla:a.length=k*5:=by rw [ha,List.length_take];omega
 have Yj:w.length=5:=by rw [hw];simp;omega
 have Rv:b.length=(n-k)*5:=by rw [hb];simp;omega
 obtain ⟨z,hz⟩:∃ z,z=dn (n+1-k) zI:=⟨_,rfl⟩
 have hlz:z.length=(n+1-k)*5:=by rw [hz];exact xc (e:=5) rfl _
 have Zi:az (Z (.sl i 0 n (.known n)))=some (I .i64 ((n:Nat):Int)):=rfl
 have NV:az (Z (.sl j p 1 (.known 1)))=some (I .i64 1):=rfl
 have cp:zc (Z (.sl i 0 n (.known n)))=some (I .i64 ((n:Nat):Int)):=rfl
 have gt:af .gtr (I .i64 ((n+1:Nat):Int)) (I .i64 ((n:Nat):Int))=some (B true):=by
  rw [Dq,decide_eq_true (by omega)]
 have p1:aB 5 (Z (.sl i 0 n (.known n))) (some (I .i64 ((k:Nat):Int))) none none=some (Z (.sl i (k*5) (n-k) (.known (n-k)))):=by
  have h1:¬ n=k:=by omega
  simp only [aB,dr (show k<=n by omega) (Nat.le_refl n),if_neg h1,Nat.zero_add]
 have p2:aB 5 (Z (.sl i 0 n (.known n))) none (some (I .i64 ((k:Nat):Int))) none=some (Z (.sl i 0 k (.known n))):=by
  simp only [aB,dZ (show k<=n by omega),Nat.zero_mul,Nat.add_zero,ite_self,Nat.sub_zero]
 obtain ⟨s1,hs1⟩:∃ s1,s1=σ.push (.cells true (a++z)):=⟨_,rfl⟩
 have gr:lG 5 40 [.int .i64 0,.int .i64 0,.int .i64 0,.int .i64 0,.int .u32 0] (Z (.sl i 0 k (.known n))) (I .i64 ((n+1-k:Nat):Int)) σ=some (Z (.sl N 0 (n+1) (.grown 5)),s1):=by
  have h1:0<((n+1-k:Nat):Int)/\k<=n/\n<k+((n+1-k:Nat):Int).toNat/\(k+((n+1-k:Nat):Int).toNat)*40<=140737488355328/\(5:Nat)≠0/\0+k*5<=vs.length:=by
   rw [Int.toNat_natCast]
   refine ⟨by omega,by omega,by omega,by omega,by decide,by omega⟩
  have h2:k+((n+1-k:Nat):Int).toNat=n+1:=by omega
  simp only [lG,hi]
  rw [if_pos h1,h2,Int.toNat_natCast,List.drop_zero,← ha,hs1,hz,hN]
 have g1:s1.get N=some (.cells true (a++z)):=by rw [hs1,hN];exact St.aq _ _
 have o1:∀ q,q≠N->s1.get q=σ.get q:=fun q hq=>by rw [hs1];exact St.aD _ _ (by rw [← hN];exact hq)
 have p3:aB 5 (Z (.sl N 0 (n+1) (.grown 5))) (some (I .i64 ((k:Nat):Int))) none none=some (Z (.sl N (k*5) (n+1-k) (.grown 5))):=by
  simp only [aB,dr (show k<=n+1 by omega) (Nat.le_refl (n+1)),if_pos trivial,if_pos (show k<n+1 by omega),Nat.zero_add]
 have p4:aB 5 (Z (.sl N 0 (n+1) (.grown 5))) (some (I .i64 ((k+1:Nat):Int))) none none=some (Z (.sl N ((k+1)*5) (n-k) (.grown 5))):=by
  have h1:n+1-(k+1)=n-k:=by omega
  simp only [aB,dr (show k+1<=n+1 by omega) (Nat.le_refl (n+1)),if_pos trivial,if_pos (show k+1<n+1 by omega),Nat.zero_add,h1]
 have jN:j≠N:=by have:=wf.lt hj;omega
 have iN:i≠N:=by have:=wf.lt hi;omega
 have Np:s1.get j=some (.cells true us):=by rw [o1 j jN];exact hj
 have Sl:eY 5 (Z (.sl j p 1 (.known 1))) s1.get=some (1,w):=by
  simp only [eY,if_neg (show ¬ (1:Nat)=0 by decide),Np,Nat.one_mul,if_pos hp,hw]
 have Ns:Nat.min 1 (n+1-k)=1:=by show min 1 (n+1-k)=1;omega
 obtain ⟨A1,Rc⟩:∃ A1,A1=aO (a++z) (k*5) w:=⟨_,rfl⟩
 obtain ⟨s2,lS⟩:∃ s2,s2=s1.set N (.cells true A1):=⟨_,rfl⟩
 have V6:fX 5 (Z (.sl N (k*5) (n+1-k) (.grown 5))) (Z (.sl j p 1 (.known 1))) s1=some (I .i64 ((1:Nat):Int),s2):=by
  have h1:k*5+1*5<=(a++z).length:=by simp;omega
  have h2:w.take (1*5)=w:=List.take_of_length_le (by omega)
  simp only [fX,Sl,g1,Ns]
  rw [if_pos h1,h2,lS,Rc]
 have g2:s2.get N=some (.cells true A1):=by rw [lS];exact St.ar _ _ _
 have hi2:s2.get i=some (.cells true vs):=by rw [lS,St.aj _ _ iN,o1 i iN];exact hi
 have hnk:¬ n-k=0:=by omega
 have Sm:eY 5 (Z (.sl i (k*5) (n-k) (.known (n-k)))) s2.get=some (n-k,b):=by
  have h1:k*5+(n-k)*5<=vs.length:=by omega
  simp only [eY,if_neg hnk,hi2,if_pos h1,hb]
 have Rz:Nat.min (n-k) (n-k)=n-k:=by show min (n-k) (n-k)=n-k;omega
 obtain ⟨A2,SN⟩:∃ A2,A2=aO A1 ((k+1)*5) b:=⟨_,rfl⟩
 obtain ⟨s3,kZ⟩:∃ s3,s3=s2.set N (.cells true A2):=⟨_,rfl⟩
 have V7:fX 5 (Z (.sl N ((k+1)*5) (n-k) (.grown 5))) (Z (.sl i (k*5) (n-k) (.known (n-k)))) s2=some (I .i64 ((n-k:Nat):Int),s3):=by
  have h1:(k+1)*5+(n-k)*5<=A1.length:=by rw [Rc,dR];simp;omega
  have h2:b.take ((n-k)*5)=b:=List.take_of_length_le (by omega)
  simp only [fX,Sm,g2,Rz]
  rw [if_pos h1,h2,kZ,SN]
 have It:A2=a++w++b:=by
  have:=I2 a w b z (by omega)
  rw [hla,Yj] at this
  rw [SN,Rc,Nat.add_mul,Nat.one_mul]
  exact this
 refine ⟨s3,?_,by rw [kZ,lS,hs1];rfl,by rw [← hN,kZ,St.ar,It,ha,hw,hb],fun q hq => ?_⟩
 · unfold f135
   rw [← hN]
   clear hi hj hi2 Np hv hp wf
   have Xm:((1:Nat):Int)=1:=rfl
   rw [Xm] at V6
   generalize n+1-k=M at *
   generalize ((n+1:Nat):Int)=N1 at *
   generalize ((k+1:Nat):Int)=K1 at *
   generalize ((M:Nat):Int)=MI at *
   generalize ((n:Nat):Int)=NI at *
   generalize ((k:Nat):Int)=KI at *
   simp only [p1,Zi,NV,fC,f1,jK,f2,f3,cp,gt,jf,p2,f5,gr,iL,p3,V6,f4,p4,V7]
 · rw [kZ,lS,St.aj _ _ (by omega),St.aj _ _ (by omega),o1 q (by omega)]
theorem IZ (d:Nat) (hi:σ.get i=some (.cells true vs)) (hj:σ.get j=some (.cells true us)) (hkn:k<n) (hn:n<=1000000) (hc:n+1<=c) (hv:vs.length=c*5) (hij:i≠j) (hp:p+5<=us.length) :
 ∃ τ B,f135 (eS Tryz.prog 8 nD d) 8 (Z (.sl i 0 n (.known c))) (I .i64 k) (Z (.sl j p 1 (.known 1))) σ=some (Z (.sl i 0 (n+1) (.known c)),τ)/\τ.size=σ.size ∧
   τ.get i=some (.cells true B)/\B.length=vs.length/\B.take ((n+1)*5)=vs.take (k*5)++(us.drop p).take 5++(vs.drop (k*5)).take ((n-k)*5)/\∀ b,b≠i->τ.get b=σ.get b:=by
 obtain ⟨f1,f2,f3,f4,f5⟩:=vS hkn hn
 obtain ⟨a,ha⟩:∃ a,a=vs.take (k*5):=⟨_,rfl⟩
 obtain ⟨w,hw⟩:∃ w,w=(us.drop p).take 5:=⟨_,rfl⟩
 obtain ⟨b,hb⟩:∃ b,b=(vs.drop (k*5)).take ((n-k)*5):=⟨_,rfl⟩
 obtain ⟨r,hr⟩:∃ r,r=vs.drop (n*5):=⟨_,rfl⟩
 have hla:a.length=k*5:=by rw [ha,List.length_take];omega
 have Yj:w.length=5:=by rw [hw];simp;omega
 have Rv:b.length=(n-k)*5:=by rw [hb];simp;omega
 have hlr:5<=r.length:=by rw [hr];simp;omega
 have hvs:vs=a++b++r:=by
  have h1:vs.drop (k*5)=b++r:=by
   rw [hb,hr]
   have:n*5=k*5+(n-k)*5:=by omega
   rw [this,← List.drop_drop]
   exact (List.take_append_drop _ _).symm
  rw [List.append_assoc,← h1,ha]
  exact (List.take_append_drop _ _).symm
 have Zi:az (Z (.sl i 0 n (.known c)))=some (I .i64 ((n:Nat):Int)):=rfl
 have NV:az (Z (.sl j p 1 (.known 1)))=some (I .i64 1):=rfl
 have cp:zc (Z (.sl i 0 n (.known c)))=some (I .i64 ((c:Nat):Int)):=rfl
 have gt:af .gtr (I .i64 ((n+1:Nat):Int)) (I .i64 ((c:Nat):Int))=some (B false):=by
  rw [Dq,decide_eq_false (by omega)]
 have p0:aB 5 (Z (.sl i 0 n (.known c))) (some (I .i64 ((k:Nat):Int))) none none=some (Z (.sl i (k*5) (n-k) (.known (c-k)))):=by
  have h1:¬ c=k:=by omega
  simp only [aB,dr (show k<=n by omega) (show n<=c by omega),if_neg h1,Nat.zero_add]
 have p1:aB 5 (Z (.sl i 0 n (.known c))) none (some (I .i64 ((n+1:Nat):Int))) none=some (Z (.sl i 0 (n+1) (.known c))):=by
  simp only [aB,dZ hc,Nat.zero_mul,Nat.add_zero,ite_self,Nat.sub_zero]
 have p2:aB 5 (Z (.sl i 0 (n+1) (.known c))) (some (I .i64 ((k+1:Nat):Int))) none none=some (Z (.sl i ((k+1)*5) (n-k) (.known (c-(k+1))))):=by
  have h1:¬ c=k+1:=by omega
  have h2:n+1-(k+1)=n-k:=by omega
  simp only [aB,dr (show k+1<=n+1 by omega) hc,if_neg h1,Nat.zero_add,h2]
 have p3:aB 5 (Z (.sl i 0 (n+1) (.known c))) (some (I .i64 ((k:Nat):Int))) none none=some (Z (.sl i (k*5) (n+1-k) (.known (c-k)))):=by
  have h1:¬ c=k:=by omega
  simp only [aB,dr (show k<=n+1 by omega) hc,if_neg h1,Nat.zero_add]
 have ov:uJ Tryz.prog 177 [Z (.sl j p 1 (.known 1)),Z (.sl i ((k+1)*5) (n-k) (.known (c-(k+1))))] σ=some (B false,σ):=by
  have h1:Nat.beq j i=false:=by
   cases h:Nat.beq j i with
   | false=>rfl
   | true=>exact absurd (Nat.eq_of_beq_eq_true h).symm hij
  simp only [uJ,C5,hi,hj,h1,Oq]
 have no:jZ .not (B false)=some (B true):=rfl
 have Sl:eY 5 (Z (.sl i (k*5) (n+1-k) (.known (c-k)))) σ.get=some (n+1-k,(vs.drop (k*5)).take ((n+1-k)*5)):=by
  have h1:k*5+(n+1-k)*5<=vs.length:=by omega
  simp only [eY,if_neg (show ¬ n+1-k=0 by omega),hi,if_pos h1]
 have Ns:Nat.min (n+1-k) (n-k)=n-k:=by show min (n+1-k) (n-k)=n-k;omega
 have hbt:((vs.drop (k*5)).take ((n+1-k)*5)).take ((n-k)*5)=b:=by
  rw [List.take_take,hb]
  congr 1;omega
 obtain ⟨A1,Rc⟩:∃ A1,A1=aO vs ((k+1)*5) b:=⟨_,rfl⟩
 obtain ⟨s1,hs1⟩:∃ s1,s1=σ.set i (.cells true A1):=⟨_,rfl⟩
 have V6:fX 5 (Z (.sl i ((k+1)*5) (n-k) (.known (c-(k+1))))) (Z (.sl i (k*5) (n+1-k) (.known (c-k)))) σ=some (I .i64 ((n-k:Nat):Int),s1):=by
  have h1:(k+1)*5+(n-k)*5<=vs.length:=by omega
  simp only [fX,Sl,hi,Ns]
  rw [if_pos h1,hbt,hs1,Rc]
 have g1:s1.get i=some (.cells true A1):=by rw [hs1];exact St.ar _ _ _
 have Np:s1.get j=some (.cells true us):=by rw [hs1,St.aj _ _ (fun h=>hij h.symm)];exact hj
 have Sm:eY 5 (Z (.sl j p 1 (.known 1))) s1.get=some (1,w):=by
  simp only [eY,if_neg (show ¬ (1:Nat)=0 by decide),Np,Nat.one_mul,if_pos hp,hw]
 have Rz:Nat.min 1 (n+1-k)=1:=by show min 1 (n+1-k)=1;omega
 obtain ⟨A2,SN⟩:∃ A2,A2=aO A1 (k*5) w:=⟨_,rfl⟩
 obtain ⟨s2,lS⟩:∃ s2,s2=s1.set i (.cells true A2):=⟨_,rfl⟩
 have hl1:A1.length=vs.length:=by rw [Rc,dR]
 have V7:fX 5 (Z (.sl i (k*5) (n+1-k) (.known (c-k)))) (Z (.sl j p 1 (.known 1))) s1=some (I .i64 ((1:Nat):Int),s2):=by
  have h1:k*5+1*5<=A1.length:=by omega
  have h2:w.take (1*5)=w:=List.take_of_length_le (by omega)
  simp only [fX,Sm,g1,Rz]
  rw [if_pos h1,h2,lS,SN]
 have It:A2.take ((n+1)*5)=a++w++b:=by
  have:=I3 a w b r (by omega)
  rw [← hvs,hla,Yj,Rv] at this
  have e1:k*5+5=(k+1)*5:=by omega
  have e2:(k+1)*5+(n-k)*5=(n+1)*5:=by omega
  rw [e1,e2] at this
  rw [SN,Rc]
  exact this
 refine ⟨s2,A2,?_,by rw [lS,hs1];simp,by rw [lS];exact St.ar _ _ _,by rw [SN,dR,hl1],by rw [It,ha,hw,hb],fun q hq=>by rw [lS,hs1,St.aj _ _ hq,St.aj _ _ hq]⟩
 unfold f135
 clear hi hj Np hv hp
 have Xm:((1:Nat):Int)=1:=rfl
 rw [Xm] at V7
 generalize ((n-k:Nat):Int)=NK at *
 generalize ((n+1:Nat):Int)=N1 at *
 generalize ((k+1:Nat):Int)=K1 at *
 generalize ((c:Nat):Int)=CI at *
 generalize ((n:Nat):Int)=NI at *
 generalize ((k:Nat):Int)=KI at *
 simp only [p0,Zi,NV,fC,f1,jK,f2,f3,cp,gt,p1,f4,p2,ov,iL,no,jf,p3,V6,V7]
end
theorem pZ:aM Tryz.prog (oD 135 5):=by
 have body:∀ (a0 a1 a2:T) (σ:St),eS Tryz.prog 8 nD 1 135 [a0,a1,a2] σ=f135 (eS Tryz.prog 8 nD 0) 8 a0 a1 a2 σ:=fun a0 a1 a2 σ =>
  (au rfl Tryz.func135 (by kernel_rfl)).trans (Da _ _ _ _ _ _)
 refine Go.Abs.F.pZ (qY Tryz.prog 8 1) ?_ ?_
 · intro σ i n k j p vs us wf h1 h2 h3 h4 h5 h6 h7
   obtain ⟨τ,e1,e2⟩:=IX 0 wf h1 h2 h3 h4 h5 h6 h7
   exact ⟨τ,(body _ _ _ _).trans e1,e2⟩
 · intro σ i n k j p c vs us h1 h2 h3 h4 h5 h6 h7 h8
   obtain ⟨τ,B,e1,e2⟩:=IZ 0 h1 h2 h3 h4 h5 h6 h7 h8
   exact ⟨τ,B,(body _ _ _ _).trans e1,e2⟩
structure dB where
 i:Int
 t:Int
 f:Int
 o:Int
 u:Int
 deriving DecidableEq
def cI (x:dB):List S:=[.int .i64 x.i,.int .i64 x.t,.int .i64 x.f,.int .i64 x.o,.int .u32 x.u]
abbrev AI (x:dB):T := .v (.agg (cI x))
theorem eG (x:dB):(cI x).length=5:=rfl
def yY (s:St) (x:S) (l:List dB):Prop:=(x = .ay/\l=[])\/∃ c vs,x = .sl c 0 l.length (.grown 5)/\s.get c=some (.cells true vs)/\vs.take (l.length*5)=cells cI l
section
variable {s t:St} {x:S} {l:List dB}
theorem yY.rd (h:yY s x l):Rd 5 s x l.length (cells cI l):=by
 rcases h with ⟨rfl,rfl⟩ | ⟨c,vs,rfl,hb,ht⟩
 · exact Rd.nil 5 s
 · have hl:=dS (e:=5) eG l
   refine ⟨hl,.inr ⟨c,0,_,true,vs,rfl,hb,?_,by rw [List.drop_zero];exact ht⟩,rfl⟩
   have:=congrArg List.length ht
   rw [List.length_take,hl] at this
   omega
theorem yY.keep (h:yY s x l) (hk:∀ c,own x=some c->t.get c=s.get c):yY t x l:=by
 rcases h with ⟨rfl,rfl⟩ | ⟨c,vs,rfl,hb,ht⟩
 · exact .inl ⟨rfl,rfl⟩
 · exact .inr ⟨c,vs,rfl,by rw [hk c rfl];exact hb,ht⟩
theorem yY.lt (h:yY s x l) (wf:s.wf) {c:Nat} (hc:own x=some c):c<s.size:=by
 rcases h with ⟨rfl,rfl⟩ | ⟨d,vs,rfl,hb,ht⟩
 · cases hc
 · cases hc;exact wf.lt hb
theorem yY.VS (h:yY s x l) {j:Nat} {n:Int} {a:dB} (hn:n=j) (ha:l[j]? = some a):∃ p,av 5 (Z x) (I .i64 n)=some p/\aH 5 p s.get=some (AI a):=by
 obtain ⟨c,p,h1,_,h3⟩:=Rd.at h.rd hn (List.getElem?_eq_some_iff.1 ha).1
 rw [jL eG ha] at h3
 exact ⟨_,h1,h3⟩
def iM (id:Int) (a:dB):Int:=IntKind.i64.wrap (a.i-id)
theorem Lg {id:Int} {a:dB} (h0:0<=id) (h1:id<=1073741824) (h2:0<=a.i) (h3:a.i<=1073741824):iM id a=a.i-id:=aE _ (by omega) (by omega)
theorem xy (d:Nat) (wf:s.wf) (a:dB) (id:Int):∃ t,R (d+1) 176 [AI a,I .i64 id] s=some (I .i64 (iM id a),t)/\Gr s t:=by
 rw [HH]
 unfold f176
 obtain ⟨s1,hs1⟩:∃ s1,s1=s.push (.cells true (cI a)):=⟨_,rfl⟩
 have nw:aL s (cf (AI a))=some (Z (.ptr s.size 0),s1):=by rw [hs1];rfl
 have fa:ae 0 (Z (.ptr s.size 0))=some (Z (.ptr s.size 0)):=rfl
 have ld:ab (Z (.ptr s.size 0)) s1.get=some (I .i64 a.i):=ai (by rw [hs1];exact St.aq _ _) rfl
 refine ⟨s1,?_,by rw [hs1];exact Gr.push wf _⟩
 simp only [nw,iL,fa,fC,ld,js]
 rfl
theorem G6 {aa:ak} {f:Nat} {args:List T} {σ:St} (h:eO Tryz.prog f=true):dyn Tryz.prog aa (Z (.iY f [])) args σ=aa f args σ:=by
 simp only [dyn,h,if_true,List.map_nil,List.append_nil]
theorem zi:eO Tryz.prog 176=true:=by kernel_rfl
structure Found (l:List dB) (id:Int) (k:Nat):Prop where
 le:k<=l.length
 low:(∀ (a b:Nat) (x y:dB),a<b->l[a]? = some x->l[b]? = some y->iM id y<0->iM id x<0)->∀ (a:Nat) (x:dB),a<k->l[a]? = some x->iM id x<0
 high:(∀ (a b:Nat) (x y:dB),a<b->l[a]? = some x->l[b]? = some y->iM id y<0->iM id x<0)->∀ (a:Nat) (x:dB),k<=a->l[a]? = some x->¬ iM id x<0
def lM (l:List dB) (id:Int) (k:Nat):Bool:=match l[k]? with
 | some a=>decide (iM id a=0)
 | none=>false
set_option maxHeartbeats 1000000 in
theorem Le (d:Nat) (wf:s.wf) (h:yY s x l) (hl:l.length<=8000) (id:Int):∃ k t,R (d+2) 175 [Z x,I .i64 id,Z (.iY 176 [])] s=some (.eF [.s (.int .i64 ((k:Nat):Int)),.s (.bool (lM l id k))],t)/\Gr s t/\Found l id k:=by
 rw [HE]
 unfold f175
 have ll:=h.rd.lens
 have dy:∀ (u:St) (a:dB),u.wf->∃ t,dyn Tryz.prog (R (d+1)) (Z (.iY 176 [])) [AI a,I .i64 id] u=some (I .i64 (iM id a),t)/\Gr u t:=fun u a hu=>by
  obtain ⟨t,e,g⟩:=xy d hu a id
  exact ⟨t,by rw [G6 zi];exact e,g⟩
 obtain ⟨KZ,hM⟩:∃ KZ,KZ=∀ (a b:Nat) (x y:dB),a<b->l[a]? = some x->l[b]? = some y->iM id y<0->iM id x<0:=⟨_,rfl⟩
 obtain ⟨j,τ,lp,hj⟩:=aV (f:=og (R (d+1)) 8192)
  (fun q v u=>∃ lo hi:Nat,hi-lo<=q/\lo<=hi/\hi<=l.length/\v=[Z x,I .i64 id,Z (.iY 176 []),I .i64 ((l.length:Nat):Int),I .i64 ((lo:Nat):Int),I .i64 ((hi:Nat):Int)]/\Gr s u ∧
   (KZ->(∀ (a:Nat) (y:dB),a<lo->l[a]? = some y->iM id y<0)/\∀ (a:Nat) (y:dB),hi<=a->l[a]? = some y->¬ iM id y<0))
  (fun j u=>∃ k:Nat,j = .exit 0 [Z x,I .i64 id,Z (.iY 176 []),I .i64 ((l.length:Nat):Int),I .i64 ((k:Nat):Int)]/\k<=l.length/\Gr s u ∧
   (KZ->(∀ (a:Nat) (y:dB),a<k->l[a]? = some y->iM id y<0)/\∀ (a:Nat) (y:dB),k<=a->l[a]? = some y->¬ iM id y<0)) (by
  rintro q v u ⟨lo,hi,hq,hlh,Pa,rfl,g,hinv⟩
  by_cases hlt:lo<hi
  · left
    obtain ⟨m,hm⟩:∃ m,m=(lo+hi) / 2:=⟨_,rfl⟩
    have Ns:lo<=m:=by omega
    have Rz:m<hi:=by omega
    have ct:l[m]? = some l[m]:=List.getElem?_eq_getElem (by omega)
    obtain ⟨y,hy⟩:∃ y,y=l[m]:=⟨_,rfl⟩
    rw [← hy] at ct
    have hu:=h.keep (t:=u) fun c hc=>g.2.2 c (h.lt wf hc)
    obtain ⟨p,ix,ld⟩:=hu.VS (n:=((m:Nat):Int)) rfl ct
    obtain ⟨t1,V8,g1⟩:=dy u y g.wf
    have c0:((lo:Nat):Int)<((hi:Nat):Int):=by omega
    have a1:IntKind.i64.wrap ((lo:Int)+(hi:Int))=((lo+hi:Nat):Int):=by rw [aE _ (by omega) (by omega)];omega
    have a2:aI .u64 (I .i64 ((lo+hi:Nat):Int))=some (I .u64 ((lo+hi:Nat):Int)):=by
     show some (I .u64 (IntKind.u64.wrap ((lo+hi:Nat):Int)))=_
     rw [wrap64 _ (by omega)]
    have a3:af .shr (I .u64 ((lo+hi:Nat):Int)) (I .u64 1)=some (I .u64 ((m:Nat):Int)):=by
     have:=eX .u64 (lo+hi) 1 (by decide)
     rw [hm]
     exact this
    have a4:aI .i64 (I .u64 ((m:Nat):Int))=some (I .i64 ((m:Nat):Int)):=by
     show some (I .i64 (IntKind.i64.wrap ((m:Nat):Int)))=_
     rw [rF _ (by omega)]
    have w1:IntKind.i64.wrap ((m:Int)+1)=((m+1:Nat):Int):=by rw [aE _ (by omega) (by omega)];omega
    by_cases hc:iM id y<0
    · refine ⟨[Z x,I .i64 id,Z (.iY 176 []),I .i64 ((l.length:Nat):Int),I .i64 ((m+1:Nat):Int),I .i64 ((hi:Nat):Int)],t1,q-1,?_,by omega,m+1,hi,by omega,by omega,Pa,rfl,g.trans g1,fun hmo=>⟨fun a z ha hz => ?_,(hinv hmo).2⟩⟩
      · unfold og
        generalize R (d+1)=r at *
        generalize ((lo+hi:Nat):Int)=LH at *
        generalize ((m+1:Nat):Int)=M1 at *
        generalize ((m:Nat):Int)=M at *
        generalize ((hi:Nat):Int)=HI at *
        generalize ((lo:Nat):Int)=LO at *
        generalize ((l.length:Nat):Int)=LL at *
        simp [c0,a1,a2,a3,a4,ix,ld,V8,hc,w1]
      · by_cases e:a=m
        · subst e;rw [ct] at hz;cases hz;exact hc
        · rw [hM] at hmo;exact hmo a m z y (by omega) hz ct hc
    · refine ⟨[Z x,I .i64 id,Z (.iY 176 []),I .i64 ((l.length:Nat):Int),I .i64 ((lo:Nat):Int),I .i64 ((m:Nat):Int)],t1,q-1,?_,by omega,lo,m,by omega,by omega,by omega,rfl,g.trans g1,fun hmo=>⟨(hinv hmo).1,fun a z ha hz WG => ?_⟩⟩
      · unfold og
        generalize R (d+1)=r at *
        generalize ((lo+hi:Nat):Int)=LH at *
        generalize ((m+1:Nat):Int)=M1 at *
        generalize ((m:Nat):Int)=M at *
        generalize ((hi:Nat):Int)=HI at *
        generalize ((lo:Nat):Int)=LO at *
        generalize ((l.length:Nat):Int)=LL at *
        simp [c0,a1,a2,a3,a4,ix,ld,V8,hc]
      · by_cases e:a=m
        · subst e;rw [ct] at hz;cases hz;exact hc WG
        · rw [hM] at hmo;exact hc (hmo m a y z (by omega) ct hz WG)
  · right
    have eo:lo=hi:=by omega
    subst eo
    refine ⟨_,u,?_,(fun v hv=>by cases hv),lo,rfl,Pa,g,hinv⟩
    have c0:¬ ((lo:Nat):Int)<((lo:Nat):Int):=by omega
    unfold og
    simp [c0]) 8192 l.length [Z x,I .i64 id,Z (.iY 176 []),I .i64 ((l.length:Nat):Int),I .i64 0,I .i64 ((l.length:Nat):Int)] s
  ⟨0,l.length,by omega,by omega,by omega,rfl,Gr.refl wf,fun _=>⟨fun a y ha=>by omega,fun a y ha hy=>by have:=(List.getElem?_eq_some_iff.1 hy).1;omega⟩⟩ (by omega)
 obtain ⟨k,rfl,hk,g,hinv⟩:=hj
 rw [hM] at hinv
 have hF:Found l id k:=⟨hk,fun m=>(hinv m).1,fun m=>(hinv m).2⟩
 by_cases eZ:k<l.length
 · have ct:l[k]? = some l[k]:=List.getElem?_eq_getElem eZ
   obtain ⟨y,hy⟩:∃ y,y=l[k]:=⟨_,rfl⟩
   rw [← hy] at ct
   have hu:=h.keep (t:=τ) fun c hc=>g.2.2 c (h.lt wf hc)
   obtain ⟨p,ix,ld⟩:=hu.VS (n:=((k:Nat):Int)) rfl ct
   obtain ⟨t1,V8,g1⟩:=dy τ y g.wf
   have c0:((k:Nat):Int)<((l.length:Nat):Int):=by omega
   have hh:lM l id k=decide (iM id y=0):=by simp only [lM,ct]
   refine ⟨k,t1,?_,g.trans g1,hF⟩
   rw [hh]
   clear hinv hF dy
   generalize R (d+1)=r at *
   generalize ((k:Nat):Int)=K at *
   generalize ((l.length:Nat):Int)=LL at *
   generalize iM id y=CY at *
   simp [ll,lp,c0,ix,ld,V8,aQ,bK]
 · have Nq:k=l.length:=by omega
   have hh:lM l id k=false:=by simp only [lM,List.getElem?_eq_none (by omega:l.length<=k)]
   have c0:¬ ((k:Nat):Int)<((l.length:Nat):Int):=by omega
   refine ⟨k,τ,?_,g,hF⟩
   rw [hh]
   clear hinv hF dy Nq
   generalize R (d+1)=r at *
   generalize ((k:Nat):Int)=K at *
   generalize ((l.length:Nat):Int)=LL at *
   simp [ll,lp,c0,aQ,bK]
theorem NL {f0 e i o n q j p m c:Nat} {k:Int} {σ:St} {vs us:List S} (hi:σ.get i=some (.cells true vs)) (hj:σ.get j=some (.cells true us))
 (hd:decide (q=e/\o=0/\0<=k/\k<n/\m=1/\c=1/\n<=1000000/\n*e<=vs.length/\i≠j/\p+e<=us.length/\e≠0)=true) :
 oD f0 e f0 [Z (.sl i o n (.grown q)),I .i64 k,Z (.sl j p m (.known c))] σ=some (Z (.sl σ.size 0 (n+1) (.grown e)),(σ.set i .dead).push (.cells true (vs.take (k.toNat*e)++(us.drop p).take e++(vs.drop (k.toNat*e)).take ((n-k.toNat)*e)))):=by
 have hn:Nat.beq f0 f0=true:=Nat.beq_refl f0
 delta oD
 dsimp only
 rw [hn]
 dsimp only
 rw [hi,hj]
 dsimp only
 rw [hd]
theorem IY {f0 e i o n q j p m c:Nat} {k:Int} {σ:St} {vs us:List S} (hi:σ.get i=some (.cells true vs)) (hj:σ.get j=some (.cells true us))
 (hd:decide (q=e/\o=0/\0<=k/\k<n/\m=1/\c=1/\n<=1000000/\n*e<=vs.length/\i≠j/\p+e<=us.length/\e≠0)=false) :
 oD f0 e f0 [Z (.sl i o n (.grown q)),I .i64 k,Z (.sl j p m (.known c))] σ=none:=by
 have hn:Nat.beq f0 f0=true:=Nat.beq_refl f0
 delta oD
 dsimp only
 rw [hn]
 dsimp only
 rw [hi,hj]
 dsimp only
 rw [hd]
theorem Ll {f0 e i o n q:Nat} {a b:Int} {z:List S} {σ:St} {vs:List S} (hi:σ.get i=some (.cells true vs)) (hd:decide (q=e/\0<=a/\b=a+1/\b<=n/\n<=1000000/\o+n*e<=vs.length)=true) :
 th f0 e z f0 [Z (.sl i o n (.grown q)),I .i64 a,I .i64 b] σ=some (Z (.sl i o (n-1) (.grown e)),(σ.set i (.cells true (aO vs (o+a.toNat*e) ((vs.drop (o+(a.toNat+1)*e)).take ((n-1-a.toNat)*e))))).set i (.cells true (aO (aO vs (o+a.toNat*e) ((vs.drop (o+(a.toNat+1)*e)).take ((n-1-a.toNat)*e))) (o+(n-1)*e) z))):=by
 have hn:Nat.beq f0 f0=true:=Nat.beq_refl f0
 delta th
 dsimp only
 rw [hn]
 dsimp only
 rw [hi]
 dsimp only
 rw [hd]
theorem DE (d:Nat) {a0 a1 a2:T} {s:St} (hp:dC 135 [a0,a1,a2] s=none):R (d+1) 135 [a0,a1,a2] s=f135 (R d) 8192 a0 a1 a2 s :=
 (au hp Tryz.func135 (by kernel_rfl)).trans (Da _ _ _ _ _ _)
structure Tq (s t:St) (x y:S) (l:List dB):Prop where
 wf:t.wf
 le:s.size<=t.size
 ins:yY t y l
 old:∀ b,b<s.size->own x≠some b->t.get b=s.get b
 new:∀ c,own y=some c->own x=some c\/s.size<=c
theorem NM (d:Nat) (wf:s.wf) (h:yY s x l) (hl:l.length<=8000) {k j:Nat} (hk:k<=l.length) {a:dB} (hj:s.get j=some (.cells true (cI a))) (hjx:∀ c,own x=some c->c≠j) :
 ∃ y t,R (d+1) 135 [Z x,I .i64 ((k:Nat):Int),Z (.sl j 0 1 (.known 1))] s=some (Z y,t)/\Tq s t x y (l.take k++a::l.drop k):=by
 have jy:=dS (e:=5) eG l
 have hjs:=wf.lt hj
 have src:eY 5 (Z (.sl j 0 1 (.known 1))) s.get=some (1,cI a):=by
  simp only [eY,if_neg (show ¬ (1:Nat)=0 by decide),hj]
  rw [if_pos (show 0+1*5<=(cI a).length by simp [cI])]
  rfl
 have NV:az (Z (.sl j 0 1 (.known 1)))=some (I .i64 1):=rfl
 have f1:af .eql (I .i64 1) (I .i64 0)=some (B false):=rfl
 rcases h with ⟨rfl,rfl⟩ | ⟨c,vs,rfl,hb,ht⟩
 · -- a nil list
   have hk0:k=0:=by simpa using hk
   subst hk0
   have hp:dC 135 [Z .ay,I .i64 ((0:Nat):Int),Z (.sl j 0 1 (.known 1))] s=none:=by
    rw [ug];rfl
   rw [DE d hp]
   unfold f135
   have p1:aB 5 (Z .ay) (some (I .i64 ((0:Nat):Int))) none none=some (Z .ay):=rfl
   have ap:aJ 5 40 (Z .ay) (Z (.sl j 0 1 (.known 1))) s=some (Z (.sl s.size 0 1 (.grown 5)),s.push (.cells true (cI a))):=by
    simp only [aJ,src]
    rfl
   have e0:az (Z .ay)=some (I .i64 ((0:Nat):Int)):=rfl
   have f2:af .eql (I .i64 ((0:Nat):Int)) (I .i64 ((0:Nat):Int))=some (B true):=rfl
   refine ⟨.sl s.size 0 1 (.grown 5),s.push (.cells true (cI a)),?_,St.bu wf _,by simp,.inr ⟨s.size,cI a,rfl,St.aq _ _,by simp [cells,cI]⟩,fun b hb _=>St.aD _ _ (by omega),fun c hc=>by cases hc;exact .inr (Nat.le_refl _)⟩
   simp only [p1,fC,NV,f1,jK,e0,f2,jf,ap,iL]
 · have hcj:c≠j:=hjx c rfl
   have hvl:l.length*5<=vs.length:=by
    have:=congrArg List.length ht
    rw [List.length_take,jy] at this
    omega
   have hcs:=wf.lt hb
   by_cases eZ:k<l.length
   · -- ahead of VQ
     have hd:decide ((5:Nat)=5/\(0:Nat)=0/\(0:Int)<=((k:Nat):Int)/\((k:Nat):Int)<((l.length:Nat):Int)/\(1:Nat)=1/\(1:Nat)=1/\l.length<=1000000/\l.length*5<=vs.length/\c≠j/\0+5<=(cI a).length/\(5:Nat)≠0)=true :=
      decide_eq_true ⟨rfl,rfl,by omega,by omega,rfl,rfl,by omega,hvl,hcj,by simp [cI],by decide⟩
     have hi:oD 135 5 135 [Z (.sl c 0 l.length (.grown 5)),I .i64 ((k:Nat):Int),Z (.sl j 0 1 (.known 1))] s =
      some (Z (.sl s.size 0 (l.length+1) (.grown 5)),(s.set c .dead).push (.cells true (vs.take (k*5)++((cI a).drop 0).take 5++(vs.drop (k*5)).take ((l.length-k)*5)))):=by
      rw [NL hb hj hd,Int.toNat_natCast]
     have hr:=dU (P:=Tryz.prog) (N:=8192) (d:=d) (ug.trans hi)
     refine ⟨_,_,hr,St.bu (St.wf_set wf hcs _) _,by simp,.inr ⟨s.size,vs.take (k*5)++((cI a).drop 0).take 5++(vs.drop (k*5)).take ((l.length-k)*5),?_,?_,?_⟩,fun b hb' hne => ?_,fun d hd=>by cases hd;exact .inr (Nat.le_refl _)⟩
     · have:(l.take k++a::l.drop k).length=l.length+1:=by simp;omega
       rw [this]
     · exact St.aq (s.set c .dead) _
     · have e1:(cI a).drop 0=cI a:=rfl
       have e2:(cI a).take 5=cI a:=rfl
       have e3:vs.take (k*5)=cells cI (l.take k):=by
        rw [← nu (e:=5) eG k l,← ht,List.take_take]
        congr 1;omega
       have e4:(vs.drop (k*5)).take ((l.length-k)*5)=cells cI (l.drop k):=by
        rw [← ke (e:=5) eG k l,← ht,List.drop_take]
        congr 1;omega
       have e5:cells cI (l.take k++a::l.drop k)=cells cI (l.take k)++cI a++cells cI (l.drop k):=by
        simp [cells]
       rw [e1,e2,e3,e4,← e5,List.take_of_length_le]
       rw [dS (e:=5) eG]
       omega
     · rw [St.aD (s.set c .dead) _ (by simp;omega),St.aj _ _ (fun e=>hne (by rw [e];rfl))]
   · -- at the end
     have Nq:k=l.length:=by omega
     subst Nq
     have hd:decide ((5:Nat)=5/\(0:Nat)=0/\(0:Int)<=((l.length:Nat):Int)/\((l.length:Nat):Int)<((l.length:Nat):Int)/\(1:Nat)=1/\(1:Nat)=1/\l.length<=1000000/\l.length*5<=vs.length/\c≠j/\0+5<=(cI a).length/\(5:Nat)≠0)=false :=
      decide_eq_false fun h=>by omega
     have hp:dC 135 [Z (.sl c 0 l.length (.grown 5)),I .i64 ((l.length:Nat):Int),Z (.sl j 0 1 (.known 1))] s=none:=by
      rw [ug,IY hb hj hd]
     rw [DE d hp]
     unfold f135
     have p1:aB 5 (Z (.sl c 0 l.length (.grown 5))) (some (I .i64 ((l.length:Nat):Int))) none none=some (Z (.emp c 5)):=by
      simp only [aB,dr (Nat.le_refl l.length) (Nat.le_refl l.length),if_pos trivial,if_neg (Nat.lt_irrefl _)]
     have e0:az (Z (.sl c 0 l.length (.grown 5)))=some (I .i64 ((l.length:Nat):Int)):=rfl
     have f2:af .eql (I .i64 ((l.length:Nat):Int)) (I .i64 ((l.length:Nat):Int))=some (B true):=by
      rw [xI,decide_eq_true rfl]
     have hsz:(l.take l.length++a::l.drop l.length).length=l.length+1:=by simp
     have lN:l.take l.length++a::l.drop l.length=l++[a]:=by simp
     have hcell:cells cI (l++[a])=cells cI l++cI a:=by simp [cells]
     have c1:True/\(l.length+1)*40<=140737488355328:=⟨trivial,by omega⟩
     by_cases hroom:0+(l.length+1)*5<=vs.length
     · have ap:aJ 5 40 (Z (.sl c 0 l.length (.grown 5))) (Z (.sl j 0 1 (.known 1))) s=some (Z (.sl c 0 (l.length+1) (.grown 5)),s.set c (.cells true (aO vs (0+l.length*5) (cI a)))):=by
        simp only [aJ,src,if_neg (show ¬ (5:Nat)=0 by decide),if_neg (show ¬ (1:Nat)=0 by decide),hb]
        rw [if_pos c1,if_pos hroom]
       refine ⟨.sl c 0 (l.length+1) (.grown 5),s.set c (.cells true (aO vs (0+l.length*5) (cI a))),by simp only [p1,fC,NV,f1,jK,e0,f2,jf,ap,iL],St.wf_set wf hcs _,by simp,.inr ⟨c,_,by rw [hsz],St.ar _ _ _,?_⟩,fun b hb' hne=>St.aj _ _ (fun e=>hne (by rw [e];rfl)),fun d hd => .inl hd⟩
       rw [lN,hcell,bZ _ _ _ (by simp [cI];omega),Nat.zero_add,ht,List.take_left']
       simp [jy,cI];omega
     · have ap:aJ 5 40 (Z (.sl c 0 l.length (.grown 5))) (Z (.sl j 0 1 (.known 1))) s=some (Z (.sl s.size 0 (l.length+1) (.grown 5)),(s.set c .dead).push (.cells true ((vs.drop 0).take (l.length*5)++cI a))):=by
        simp only [aJ,src,if_neg (show ¬ (5:Nat)=0 by decide),if_neg (show ¬ (1:Nat)=0 by decide),hb]
        rw [if_pos c1,if_neg hroom,if_pos (by omega)]
       refine ⟨.sl s.size 0 (l.length+1) (.grown 5),(s.set c .dead).push (.cells true ((vs.drop 0).take (l.length*5)++cI a)),by simp only [p1,fC,NV,f1,jK,e0,f2,jf,ap,iL],St.bu (St.wf_set wf hcs _) _,by simp,.inr ⟨s.size,_,by rw [hsz],St.aq (s.set c .dead) _,?_⟩,fun b hb' hne => ?_,fun d hd=>by cases hd;exact .inr (Nat.le_refl _)⟩
       · rw [lN,hcell,List.drop_zero,ht,List.take_of_length_le]
         simp [jy,cI];omega
       · rw [St.aD (s.set c .dead) _ (by simp;omega),St.aj _ _ (fun e=>hne (by rw [e];rfl))]
theorem Lm (d:Nat) (wf:s.wf) (h:yY s x l) (hl:l.length<=8000) {k:Nat} (hk:k<l.length) :
 ∃ y t,R (d+1) 136 [Z x,I .i64 ((k:Nat):Int),I .i64 ((k+1:Nat):Int)] s=some (Z y,t)/\Tq s t x y (l.take k++l.drop (k+1)):=by
 have jy:=dS (e:=5) eG l
 rcases h with ⟨rfl,rfl⟩ | ⟨c,vs,rfl,hb,ht⟩
 · simp at hk
 · have hvl:l.length*5<=vs.length:=by
    have:=congrArg List.length ht
    rw [List.length_take,jy] at this
    omega
   have hcs:=wf.lt hb
   have hd:decide ((5:Nat)=5/\(0:Int)<=((k:Nat):Int)/\((k+1:Nat):Int)=((k:Nat):Int)+1/\((k+1:Nat):Int)<=((l.length:Nat):Int)/\l.length<=1000000/\0+l.length*5<=vs.length)=true :=
    decide_eq_true ⟨rfl,by omega,by omega,by omega,by omega,by omega⟩
   obtain ⟨A,hA⟩:∃ A,A=aO vs (0+k*5) ((vs.drop (0+(k+1)*5)).take ((l.length-1-k)*5)):=⟨_,rfl⟩
   obtain ⟨Bl,hB⟩:∃ Bl,Bl=aO A (0+(l.length-1)*5) [.int .i64 0,.int .i64 0,.int .i64 0,.int .i64 0,.int .u32 0]:=⟨_,rfl⟩
   have hi:th 136 5 [.int .i64 0,.int .i64 0,.int .i64 0,.int .i64 0,.int .u32 0] 136 [Z (.sl c 0 l.length (.grown 5)),I .i64 ((k:Nat):Int),I .i64 ((k+1:Nat):Int)] s =
    some (Z (.sl c 0 (l.length-1) (.grown 5)),(s.set c (.cells true A)).set c (.cells true Bl)):=by
    rw [Ll hb hd,Int.toNat_natCast,← hA,← hB]
   have hr:=dU (P:=Tryz.prog) (N:=8192) (d:=d) (JR hi)
   have hsz:(l.take k++l.drop (k+1)).length=l.length-1:=by simp;omega
   refine ⟨_,_,hr,St.wf_set (St.wf_set wf hcs _) (by simpa using hcs) _,by simp,.inr ⟨c,Bl,by rw [hsz],St.ar _ _ _,?_⟩,fun b hb' hne => ?_,fun d hd => .inl hd⟩
   · have e3:vs.take (k*5)=cells cI (l.take k):=by
      rw [← nu (e:=5) eG k l,← ht,List.take_take]
      congr 1;omega
     have e4:(vs.drop ((k+1)*5)).take ((l.length-1-k)*5)=cells cI (l.drop (k+1)):=by
      rw [← ke (e:=5) eG (k+1) l,← ht,List.drop_take]
      congr 1;omega
     have hln:((vs.drop ((k+1)*5)).take ((l.length-1-k)*5)).length=(l.length-1-k)*5:=by simp;omega
     have hAl:A.length=vs.length:=by rw [hA,dR]
     have e6:A.take ((l.length-1)*5)=cells cI (l.take k)++cells cI (l.drop (k+1)):=by
      rw [hA,Nat.zero_add,Nat.zero_add,bZ _ _ _ (by rw [hln];omega),e3,e4,List.take_left']
      rw [List.length_append,dS (e:=5) eG,dS (e:=5) eG]
      simp;omega
     have e7:Bl.take ((l.length-1)*5)=A.take ((l.length-1)*5):=by
      rw [hB,Nat.zero_add,bZ _ _ _ (by simp;omega),List.append_assoc,List.take_left']
      simp;omega
     rw [hsz,e7,e6,fD]
   · have Up:b≠c:=fun e=>hne (by rw [e];rfl)
     rw [St.aj _ _ Up,St.aj _ _ Up]
end
structure FoS where
 l:List dB
 df:List Int
 iu:rQ
 v:Int
 w:Int
def Cl (id:Int) (a:dB):Bool:=decide (a.i<id)
def lV (l:List dB) (id:Int):Nat:=(l.takeWhile (Cl id)).length
def fe (l:List dB) (id:Int):Bool:=l.any fun a=>decide (a.i=id)
def xU (e:bA):dB:=⟨e.i,e.t,e.f,e.o,e.u⟩
def tP (l:List dB) (a:dB):List dB:=l.take (lV l a.i)++a::l.drop (lV l a.i)
def xD (l:List dB) (id:Int):List dB:=l.take (lV l id)++l.drop (lV l id+1)
def bh (q:FoS) (e:bA):Int :=
 if cd e=true then (if e.k=1/\e.i∈q.df then 7 else if e.k=2/\fe q.l e.i=false then 9 else if e.v<q.w then 12 else 0) else 1
def cN (q:FoS) (e:bA):FoS :=
 if e.k=1 then ⟨tP q.l (xU e),q.df++[e.i],q.iu,q.v,e.v⟩
 else if e.k=2 then ⟨xD q.l e.i,q.df,q.iu,q.v,e.v⟩
 else if e.k=3 then ⟨q.l,q.df,q.iu,e.v,e.v⟩
 else ⟨q.l,q.df,(fI e.x).1,q.v,e.v⟩
def bf (q:FoS):List bA->Int×FoS
 | []=>(0,q)
 | e::r=>if bh q e=0 then bf (cN q e) r else (bh q e,q)
def lL:FoS:=⟨[],[],lj,0,0⟩
structure FZ (q:FoS):Prop where
 up:q.l.Pairwise fun a b=>a.i<b.i
 Sd:∀ a∈q.l,1<=a.i/\a.i<=1073741824
 ev:∀ a∈q.l,a.i∈q.df
 len:q.l.length<=q.df.length
theorem BZ:FZ lL:=⟨.nil,(by intro a h;simp [lL] at h),(by intro a h;simp [lL] at h),Nat.le_refl _⟩
theorem Kv {α:Type} {p:α->Bool}:∀ (l:List α) (k:Nat),k<=l.length->(∀ (a:Nat) (x:α),a<k->l[a]? = some x->p x=true)->(∀ x,l[k]? = some x->p x=false)->(l.takeWhile p).length=k
 | [],k,h,_,_=>by simp at h;subst h;rfl
 | a::l,0,_,_,h=>by
   have:=h a rfl
   simp [List.takeWhile_cons,this]
 | a::l,k+1,hk,h1,h2=>by
   have h0:=h1 0 a (by omega) rfl
   rw [List.takeWhile_cons,h0]
   simp only [if_true,List.length_cons]
   rw [Kv l k (by simpa using hk) (fun b x hb hx=>h1 (b+1) x (by omega) (by simpa using hx)) (fun x hx=>h2 x (by simpa using hx))]
theorem Kq (l:List dB) (id:Int):l.take (lV l id)=l.takeWhile (Cl id):=by
 unfold lV
 induction l with
 | nil=>rfl
 | cons a l ih =>
   rw [List.takeWhile_cons]
   split
   · rw [List.length_cons,List.take_succ_cons,ih]
   · rfl
theorem G3 (l:List dB) (id:Int):l.drop (lV l id)=l.dropWhile (Cl id):=by
 unfold lV
 induction l with
 | nil=>rfl
 | cons a l ih =>
   rw [List.takeWhile_cons,List.dropWhile_cons]
   split
   · rw [List.length_cons,List.drop_succ_cons,ih]
   · rfl
theorem oF {l:List dB} {id:Int} {a:dB} (h:a∈l.take (lV l id)):a.i<id:=by
 rw [Kq] at h
 have:∀ m:List dB,a∈m.takeWhile (Cl id)->a.i<id:=by
  intro m
  induction m with
  | nil=>intro h;cases h
  | cons b m ih =>
    intro h
    rw [List.takeWhile_cons] at h
    split at h
    · rename_i hb
      rcases List.mem_cons.1 h with rfl | h
      · simpa [Cl] using hb
      · exact ih h
    · cases h
 exact this l h
theorem pV {l:List dB} {id:Int} (hp:l.Pairwise fun a b=>a.i<b.i) {a:dB} (h:a∈l.drop (lV l id)):id<=a.i:=by
 rw [G3] at h
 have:∀ m:List dB,(m.Pairwise fun a b=>a.i<b.i)->a∈m.dropWhile (Cl id)->id<=a.i:=by
  intro m
  induction m with
  | nil=>intro _ h;cases h
  | cons b m ih =>
    intro hp h
    rw [List.dropWhile_cons] at h
    split at h
    · exact ih (List.pairwise_cons.1 hp).2 h
    · rename_i hb
      have hb':id<=b.i:=by simpa [Cl] using hb
      rcases List.mem_cons.1 h with rfl | h
      · exact hb'
      · have:=(List.pairwise_cons.1 hp).1 a h
        omega
 exact this l hp h
theorem PE {l:List dB} (hp:l.Pairwise fun a b=>a.i<b.i) {a b:Nat} {x y:dB} (hab:a<b) (hx:l[a]? = some x) (hy:l[b]? = some y):x.i<y.i:=by
 obtain ⟨h1,rfl⟩:=List.getElem?_eq_some_iff.1 hx
 obtain ⟨h2,rfl⟩:=List.getElem?_eq_some_iff.1 hy
 exact List.pairwise_iff_getElem.1 hp a b h1 h2 hab
theorem tD {l:List dB} {id:Int} {k:Nat} (h:Found l id k) (hp:l.Pairwise fun a b=>a.i<b.i) (hr:∀ a∈l,1<=a.i/\a.i<=1073741824) (h0:1<=id) (h1:id<=1073741824):k=lV l id/\lM l id k=fe l id:=by
 have hc:∀ a∈l,iM id a=a.i-id:=fun a ha=>by
  have:=hr a ha
  exact Lg (by omega) h1 (by omega) this.2
 have hm:∀ (a b:Nat) (x y:dB),a<b->l[a]? = some x->l[b]? = some y->iM id y<0->iM id x<0:=fun a b x y hab hx hy hlt=>by
  have:=PE hp hab hx hy
  rw [hc y (List.mem_of_getElem? hy)] at hlt
  rw [hc x (List.mem_of_getElem? hx)]
  omega
 have hl:∀ (a:Nat) (x:dB),a<k->l[a]? = some x->x.i<id:=fun a x ha hx=>by
  have:=h.low hm a x ha hx
  rw [hc x (List.mem_of_getElem? hx)] at this
  omega
 have hh:∀ (a:Nat) (x:dB),k<=a->l[a]? = some x->id<=x.i:=fun a x ha hx=>by
  have:=h.high hm a x ha hx
  rw [hc x (List.mem_of_getElem? hx)] at this
  omega
 refine ⟨(Kv l k h.le (fun a x ha hx=>decide_eq_true (hl a x ha hx)) (fun x hx=>decide_eq_false (by have:=hh k x (Nat.le_refl _) hx;omega))).symm,?_⟩
 unfold lM fe
 cases hk:l[k]? with
 | none =>
   symm
   rw [List.any_eq_false]
   intro x hx
   obtain ⟨a,ha⟩:=List.getElem?_of_mem hx
   have hle:l.length<=k:=List.getElem?_eq_none_iff.1 hk
   have:=hl a x (by have:=(List.getElem?_eq_some_iff.1 ha).1;omega) ha
   simp only [decide_eq_true_eq]
   omega
 | some y =>
   have hy:=List.mem_of_getElem? hk
   show decide (iM id y=0)=_
   rw [hc y hy]
   by_cases e:y.i=id
   · rw [decide_eq_true (by omega)]
     symm
     rw [List.any_eq_true]
     exact ⟨y,hy,by simpa using e⟩
   · rw [decide_eq_false (by omega)]
     symm
     rw [List.any_eq_false]
     intro x hx
     obtain ⟨a,ha⟩:=List.getElem?_of_mem hx
     simp only [decide_eq_true_eq]
     intro ex
     have hyk:=hh k y (Nat.le_refl _) hk
     rcases Nat.lt_trichotomy a k with hlt | rfl | hgt
     · have:=hl a x hlt ha;omega
     · rw [ha] at hk;cases hk;exact e ex
     · have:=PE hp hgt hk ha;omega
theorem Jg {l:List dB} {id:Int} (hp:l.Pairwise fun a b=>a.i<b.i) (h:fe l id=true):lV l id<l.length:=by
 unfold fe at h
 rw [List.any_eq_true] at h
 obtain ⟨x,hx,ex⟩:=h
 have F2:x.i=id:=by simpa using ex
 have hd:x∈l.drop (lV l id):=by
  have hx':=hx
  rw [← List.take_append_drop (lV l id) l] at hx'
  rcases List.mem_append.1 hx' with h | h
  · have:=oF h;omega
  · exact h
 rcases Nat.lt_or_ge (lV l id) l.length with h | h
 · exact h
 · rw [List.drop_eq_nil_of_le h] at hd;cases hd
theorem Jf (l:List dB) (id:Int):lV l id<=l.length:=(List.takeWhile_sublist _).length_le
theorem tR {l:List dB} {a b:dB} (h:b∈tP l a):b=a\/b∈l:=by
 unfold tP at h
 rcases List.mem_append.1 h with h | h
 · exact .inr (List.mem_of_mem_take h)
 · rcases List.mem_cons.1 h with h | h
   · exact .inl h
   · exact .inr (List.mem_of_mem_drop h)
theorem zr (l:List dB) (id:Int):(xD l id).Sublist l:=by
 have h:=List.take_append_drop (lV l id) l
 conv=>rhs;rw [← h]
 exact List.Sublist.append (List.Sublist.refl _) (by rw [← List.drop_drop];exact List.drop_sublist 1 _)
theorem DK {q:FoS} {e:bA} (h:FZ q) (ha:bh q e=0):FZ (cN q e):=by
 have hm:cd e=true:=by
  unfold bh at ha
  by_cases hm:cd e=true
  · exact hm
  · rw [if_neg hm] at ha;cases ha
 obtain ⟨v0,v1,k0,k1,h1,h2,h3,h4⟩:=er hm
 unfold cN
 by_cases c1:e.k=1
 · rw [if_pos c1]
   have hne:e.i∉q.df:=by
    unfold bh at ha
    rw [if_pos hm] at ha
    intro hin
    rw [if_pos ⟨c1,hin⟩] at ha
    cases ha
   obtain ⟨_,i0,i1,_⟩:=h1 c1
   refine ⟨?_,fun a ha => ?_,fun a ha => ?_,?_⟩
   · show (tP q.l (xU e)).Pairwise _
     unfold tP
     refine List.pairwise_append.2 ⟨h.up.sublist (List.take_sublist _ _),List.pairwise_cons.2 ⟨fun b hb => ?_,h.up.sublist (List.drop_sublist _ _)⟩,fun a ha b hb => ?_⟩
     · have uU:=pV h.up hb
       have iE:=h.ev b (List.mem_of_mem_drop hb)
       have:b.i≠e.i:=fun he=>hne (by rw [← he];exact iE)
       show e.i<b.i
       have:e.i<=b.i:=uU
       omega
     · have XF:=oF ha
       rcases List.mem_cons.1 hb with rfl | hb
       · exact XF
       · have:=pV h.up hb
         omega
   · rcases tR ha with rfl | ha
     · exact ⟨i0,i1⟩
     · exact h.Sd a ha
   · rcases tR ha with rfl | ha
     · exact List.mem_append_right _ (by simp [xU])
     · exact List.mem_append_left _ (h.ev a ha)
   · have:=h.len
     simp only [tP,List.length_append,List.length_take,List.length_cons,List.length_drop,List.length_nil]
     have:=Jf q.l (xU e).i
     omega
 · rw [if_neg c1]
   by_cases c2:e.k=2
   · rw [if_pos c2]
     have hs:=zr q.l e.i
     exact ⟨h.up.sublist hs,fun a ha=>h.Sd a (hs.subset ha),fun a ha=>h.ev a (hs.subset ha),Nat.le_trans hs.length_le h.len⟩
   · rw [if_neg c2]
     by_cases c3:e.k=3
     · rw [if_pos c3];exact ⟨h.up,h.Sd,h.ev,h.len⟩
     · rw [if_neg c3];exact ⟨h.up,h.Sd,h.ev,h.len⟩
theorem wj {q:FoS} {e:bA}:(cN q e).df.length<=q.df.length+1:=by
 unfold cN
 split
 · simp
 · split
   · simp
   · split<;>simp
def cL (l:List bA) (n:Nat):Nat:=(aF (l.take n)).length
def mX (l:List bA):List Int:=(List.range l.length).map fun j=>((cL l (j+1):Nat):Int)
@[simp] theorem SM (l:List bA):(mX l).length=l.length:=by simp [mX]
theorem me (l:List bA):cL l 0=0:=by simp [cL,aF]
theorem dK (l:List bA):cL l l.length=(aF l).length:=by simp [cL]
theorem ED {l:List bA} {j:Nat} (h:j<l.length):(mX l)[j]? = some ((cL l (j+1):Nat):Int):=by
 simp [mX,h]
theorem jz (l m:List bA) {n:Nat} (h:n<=l.length):cL (l++m) n=cL l n:=by
 unfold cL
 rw [List.take_append_of_le_length h]
theorem BR (l:List bA) (e:bA):mX (l++[e])=mX l++[(((aF l).length+(aZ (bj e)).length:Nat):Int)]:=by
 unfold mX
 rw [List.length_append,List.length_singleton,List.range_succ,List.map_append]
 congr 1
 · apply List.map_congr_left
   intro j hj
   rw [jz _ _ (by have:=List.mem_range.1 hj;omega)]
 · simp only [List.map_cons,List.map_nil]
   rw [show l.length+1=(l++[e]).length by simp,dK,ij,List.length_append]
theorem jx:∀ (a b:List bA) (q:FoS),bf q (a++b)=if (bf q a).1=0 then bf (bf q a).2 b else bf q a
 | [],b,q=>by simp [bf]
 | e::a,b,q=>by
   have h1:bf q (e::a)=if bh q e=0 then bf (cN q e) a else (bh q e,q):=rfl
   have h2:bf q (e::a++b)=if bh q e=0 then bf (cN q e) (a++b) else (bh q e,q):=rfl
   by_cases h:bh q e=0
   · rw [if_pos h] at h1 h2
     rw [h1,h2]
     exact jx a b _
   · rw [if_neg h] at h1 h2
     rw [h1,h2,if_neg h]
theorem fk {l:List bA} {q q':FoS} {e:bA} (h:bf q l=(0,q')) (he:bh q' e=0):bf q (l++[e])=(0,cN q' e):=by
 rw [jx,h]
 simp [bf,he]
theorem zG {l:List bA} {q q':FoS} (h:bf q l=(0,q')) (n:Nat):∃ Sb,bf q (l.take n)=(0,Sb)/\bf Sb (l.drop n)=(0,q'):=by
 have h1:=jx (l.take n) (l.drop n) q
 rw [List.take_append_drop,h] at h1
 by_cases h2:(bf q (l.take n)).1=0
 · rw [if_pos h2] at h1
   exact ⟨_,Prod.ext h2 rfl,h1.symm⟩
 · rw [if_neg h2] at h1
   rw [← h1] at h2
   exact absurd rfl h2
theorem dN {q:FoS} {e:bA} (h:bh q e=0):cd e=true:=by
 unfold bh at h
 by_cases hm:cd e=true
 · exact hm
 · rw [if_neg hm] at h;cases h
theorem pN:∀ {l:List bA} {q q':FoS},bf q l=(0,q')->FZ q->l.all cd=true/\FZ q'/\q'.df.length<=q.df.length+l.length
 | [],q,q',h,hq=>by
   cases h
   exact ⟨rfl,hq,by simp⟩
 | e::l,q,q',h,hq=>by
   simp only [bf] at h
   by_cases ha:bh q e=0
   · rw [if_pos ha] at h
     obtain ⟨h1,h2,h3⟩:=pN h (DK hq ha)
     refine ⟨by rw [List.all_cons,dN ha,h1];rfl,h2,?_⟩
     have:=wj (q:=q) (e:=e)
     simp only [List.length_cons]
     omega
   · rw [if_neg ha] at h
     injection h with h1 h2
     exact absurd h1 ha
def PC (k:Nat):Bs:=[115,101,97,108,32,UInt8.ofNat (48+k / 10),UInt8.ofNat (48+k%10)]
def Kc (k:Nat):bA:=⟨4,0,0,0,0,0,0,PC k⟩
def Ke:List Nat->rQ
 | []=>lj
 | [k]=>(fI (PC k)).1
 | _::r=>Ke r
def OG (ks:List Nat):FoS:=⟨[],[],Ke ks,0,0⟩
def oG (df:List Int):List (S×V):=df.map fun i=>(S.int .i64 i,V.s (.bool true))
def cF (x:S) (mp:Nat) (q:FoS):List S:=[x,.map mp,.int .i64 q.iu.a0,.int .i64 q.iu.a1,.int .i64 q.iu.a2,.int .i64 q.iu.a3,.int .i64 q.iu.c,.int .i64 q.iu.n,.int .i64 q.v,.int .i64 q.w]
theorem pL (i:Int):∀ (l:List Int) (k:Nat),(i∈l->∃ j,fg (.int .i64 i) (oG l) k=some (some (j,V.s (.bool true))))/\(i∉l->fg (.int .i64 i) (oG l) k=some none)
 | [],k=>⟨fun h=>by simp at h,fun _=>rfl⟩
 | a::l,k=>by
   obtain ⟨h1,h2⟩:=pL i l (k+1)
   by_cases e:i=a
   · subst e
     refine ⟨fun _=>⟨k,by simp [oG,fg,jh]⟩,fun h=>(h (by simp)).elim⟩
   · have hk:fg (.int .i64 i) (oG (a::l)) k=fg (.int .i64 i) (oG l) (k+1):=by simp [oG,fg,jh,e]
     rw [hk]
     exact ⟨fun h=>h1 (by rcases List.mem_cons.1 h with h | h;exact (e h).elim;exact h),fun h=>h2 fun hh=>h (List.mem_cons_of_mem _ hh)⟩
theorem E8 {g:Mem} {mp:Nat} {df:List Int} (h:g mp=some (.map (oG df))) (i:Int):Go.Abs.F.look .i false (.s (.bool false)) (Z (.map mp)) (I .i64 i) g=some (B (decide (i∈df))):=by
 obtain ⟨h1,h2⟩:=pL i df 0
 have hk:isKey .i (I .i64 i)=true:=rfl
 unfold Go.Abs.F.look
 rw [if_pos hk]
 by_cases hi:i∈df
 · obtain ⟨j,hj⟩:=h1 hi
   simp only [gA,h,hj,decide_eq_true hi]
   rfl
 · simp only [gA,h,h2 hi,decide_eq_false hi]
   rfl
section
variable {K:Nat->Prop}
variable {s0 s t:St} {b mp:Nat} {q:FoS} {x y:S} {e:bA}
theorem Fe {df:List Int} (h:s.get mp=some (.map (oG df))) {i:Int} (hi:i∉df):Fc .i (Z (.map mp)) (I .i64 i) (B true) s=some (tt,s.set mp (.map (oG (df++[i])))):=by
 obtain ⟨_,h2⟩:=pL i df 0
 have hk:isKey .i (I .i64 i)=true:=rfl
 unfold Fc
 rw [if_pos hk]
 simp only [ib,h,h2 hi]
 simp [oG]
def Sx (K:Nat->Prop) (s t:St):Prop:=t.wf/\s.size<=t.size/\∀ c,c<s.size->K c->t.get c=s.get c
theorem Sx.wf {K:Nat->Prop} {s t:St} (h:Sx K s t):t.wf:=h.1
theorem Sx.trans {K:Nat->Prop} {a b c:St} (h:Sx K a b) (k:Gr b c):Sx K a c:=⟨k.1,Nat.le_trans h.2.1 k.2.1,fun x hx hK=>by rw [k.2.2 x (Nat.lt_of_lt_of_le hx h.2.1),h.2.2 x hx hK]⟩
structure HG (K:Nat->Prop) (s0 s:St) (b:Nat) (q:FoS) (x:S) (mp:Nat):Prop where
 gr:Sx K s0 s
 hb:b<s0.size->¬ K b
 hm:mp<s0.size->¬ K mp
 st:s.get b=some (.cells true (cF x mp q))
 Co:s.get mp=some (.map (oG q.df))
 ins:yY s x q.l
 ow:∀ c,own x=some c->(c<s0.size->¬ K c)/\c≠b/\c≠mp
abbrev HF (s0 s:St) (b:Nat) (q:FoS) (x:S) (mp:Nat):Prop:=HG (fun _=>True) s0 s b q x mp
theorem HG.O4 (h:HF s0 s b q x mp):Gr s0 s:=⟨h.gr.1,h.gr.2.1,fun c hc=>h.gr.2.2 c hc trivial⟩
theorem HG.bm (h:HG K s0 s b q x mp):b≠mp:=fun e=>by
 have h1:=h.st
 rw [e,h.Co] at h1
 cases h1
theorem HG.kY (h:HG K s0 s b q x mp) (g:Gr s t):HG K s0 t b q x mp :=
 ⟨h.gr.trans g,h.hb,h.hm,g.get h.st h.gr.wf,g.get h.Co h.gr.wf,h.ins.keep fun c hc=>g.2.2 c (h.ins.lt h.gr.wf hc),h.ow⟩
theorem HG.re (h:HG K s0 s b q x mp):HG (fun c=>c≠b/\c≠mp/\own x≠some c) s s b q x mp :=
 ⟨⟨h.gr.1,Nat.le_refl _,fun _ _ _=>rfl⟩,fun _ k=>k.1 rfl,fun _ k=>k.2.1 rfl,h.st,h.Co,h.ins,fun c hc=>⟨fun _ k=>k.2.2 hc,(h.ow c hc).2⟩⟩
theorem AQ (d:Nat) (h:HG K s0 s b q x mp) (hl:q.l.length<=8000) (id:Int):∃ k t,R (d+3) 134 [Z (.ptr b 0),I .i64 id] s=some (.eF [.s (.int .i64 ((k:Nat):Int)),.s (.bool (lM q.l id k))],t)/\Gr s t/\Found q.l id k:=by
 obtain ⟨k,t,e1,g,f⟩:=Le d h.gr.wf h.ins hl id
 refine ⟨k,t,?_,g,f⟩
 rw [Hq]
 unfold f134
 have l0:ab (Z (.ptr b 0)) s.get=some (Z x):=ai h.st rfl
 generalize R (d+2)=r at *
 generalize ((k:Nat):Int)=K at *
 simp [l0,e1,ah,aQ,bK]
set_option maxHeartbeats 1000000 in
theorem uC (d:Nat) (h:HG K s0 s b q x mp) (hq:FZ q) (hl:q.l.length<=8000) (e:bA):∃ t,R (d+9) 110 [Z (.ptr b 0),AE e] s=some (I .i64 (bh q e),t)/\Gr s t:=by
 rw [Hd]
 unfold f110
 obtain ⟨n,hn⟩:∃ n,n=s.size:=⟨_,rfl⟩
 obtain ⟨s1,hs1⟩:∃ s1,s1=s.push (.cells true (cE e)):=⟨_,rfl⟩
 have cZ:aL s (cf (AE e))=some (Z (.ptr n 0),s1):=by rw [hs1,hn];rfl
 have g1:Gr s s1:=by rw [hs1];exact Gr.push h.gr.wf _
 have b1:s1.get n=some (.cells true (cE e)):=by rw [hs1,hn];exact St.aq _ _
 have l1:ab (Z (.ptr n 2)) s1.get=some (I .i64 e.i):=ai b1 rfl
 obtain ⟨k,s2,e2,g2,hF⟩:=AQ (d+5) (h.kY g1) hl e.i
 have b2:s2.get n=some (.cells true (cE e)):=g2.get b1 g1.wf
 have l2:=c7 (g:=s2.get) b2
 obtain ⟨s3,e3,g3⟩:=tW d g2.wf e
 have b3:s3.get n=some (.cells true (cE e)):=g3.get b2 g2.wf
 have h3:=((h.kY g1).kY g2).kY g3
 have k3:ab (Z (.ptr n 0)) s3.get=some (I .i64 e.k):=ai b3 rfl
 have v3:ab (Z (.ptr n 1)) s3.get=some (I .i64 e.v):=ai b3 rfl
 have i3:ab (Z (.ptr n 2)) s3.get=some (I .i64 e.i):=ai b3 rfl
 have m3:ab (Z (.ptr b 1)) s3.get=some (Z (.map mp)):=ai h3.st rfl
 have w3:ab (Z (.ptr b 9)) s3.get=some (I .i64 q.w):=ai h3.st rfl
 have lk:=E8 h3.Co e.i
 refine ⟨s3,?_,(g1.trans g2).trans g3⟩
 simp only [Nat.add_assoc,Nat.reduceAdd] at e2
 unfold bh
 cases hm:cd e with
 | false =>
   rw [hm] at e3
   generalize R (d+8)=r at *
   generalize ((k:Nat):Int)=K at *
   generalize lM q.l e.i k=hit at *
   simp [cZ,l1,e2,ah,l2,e3]
 | true =>
   rw [hm] at e3
   obtain ⟨v0,v1,k0,k1,q1,q2,q3,q4⟩:=er hm
   rcases (by omega:e.k=1\/e.k=2\/e.k=3\/e.k=4) with hk | hk | hk | hk
   · by_cases hi:e.i∈q.df
     · rw [decide_eq_true hi] at lk
       generalize R (d+8)=r at *
       generalize ((k:Nat):Int)=K at *
       generalize lM q.l e.i k=hit at *
       simp [cZ,l1,e2,ah,l2,e3,k3,hk,m3,i3,lk,hi]
     · rw [decide_eq_false hi] at lk
       generalize R (d+8)=r at *
       generalize ((k:Nat):Int)=K at *
       generalize lM q.l e.i k=hit at *
       by_cases hv:e.v<q.w
       · simp [cZ,l1,e2,ah,l2,e3,k3,hk,m3,i3,lk,hi,v3,w3,hv]
       · simp [cZ,l1,e2,ah,l2,e3,k3,hk,m3,i3,lk,hi,v3,w3,hv]
   · obtain ⟨i0,i1,_⟩:=q2 hk
     obtain ⟨_,hh⟩:=tD hF hq.up hq.Sd i0 i1
     rw [hh] at e2
     generalize R (d+8)=r at *
     generalize ((k:Nat):Int)=K at *
     cases ht:fe q.l e.i with
     | false =>
       rw [ht] at e2
       simp [cZ,l1,e2,ah,l2,e3,k3,hk,m3,i3,v3,w3]
     | true =>
       rw [ht] at e2
       by_cases hv:e.v<q.w
       · simp [cZ,l1,e2,ah,l2,e3,k3,hk,m3,i3,v3,w3,hv]
       · simp [cZ,l1,e2,ah,l2,e3,k3,hk,m3,i3,v3,w3,hv]
   · generalize R (d+8)=r at *
     generalize ((k:Nat):Int)=K at *
     generalize lM q.l e.i k=hit at *
     by_cases hv:e.v<q.w
     · simp [cZ,l1,e2,ah,l2,e3,k3,hk,m3,i3,v3,w3,hv]
     · simp [cZ,l1,e2,ah,l2,e3,k3,hk,m3,i3,v3,w3,hv]
   · generalize R (d+8)=r at *
     generalize ((k:Nat):Int)=K at *
     generalize lM q.l e.i k=hit at *
     by_cases hv:e.v<q.w
     · simp [cZ,l1,e2,ah,l2,e3,k3,hk,m3,i3,v3,w3,hv]
     · simp [cZ,l1,e2,ah,l2,e3,k3,hk,m3,i3,v3,w3,hv]
end
section
variable {K:Nat->Prop}
variable {s0 s t:St} {b mp:Nat} {q:FoS} {x y:S} {e:bA}
theorem DZ {σ:St} {q':FoS} {o:Nat} {x' z:S} (h:σ.get b=some (.cells true (cF x mp q))) (ho:o<10) (hz:aO (cF x mp q) o [z]=cF x' mp q'):aw 1 (Z (.ptr b o)) (Z z) σ=some (tt,σ.set b (.cells true (cF x' mp q'))):=by
 rw [aW h (by simpa [cF] using ho),hz]
set_option maxHeartbeats 2000000 in
theorem wo (d:Nat) (h:HG K s0 s b q x mp) (hq:FZ q) (hl:q.df.length<=8000) (e:bA):∃ t y,R (d+10) 96 [Z (.ptr b 0),AE e] s=some (I .i64 (bh q e),t)/\HG K s0 t b (if bh q e=0 then cN q e else q) y mp:=by
 rw [Nc]
 unfold f96
 have eo:q.l.length<=8000:=Nat.le_trans hq.len hl
 obtain ⟨n,hn⟩:∃ n,n=s.size:=⟨_,rfl⟩
 obtain ⟨s1,hs1⟩:∃ s1,s1=s.push (.cells true (cE e)):=⟨_,rfl⟩
 have cZ:aL s (cf (AE e))=some (Z (.ptr n 0),s1):=by rw [hs1,hn];rfl
 have g1:Gr s s1:=by rw [hs1];exact Gr.push h.gr.wf _
 have b1:s1.get n=some (.cells true (cE e)):=by rw [hs1,hn];exact St.aq _ _
 have l1:=c7 (g:=s1.get) b1
 have h1:=h.kY g1
 obtain ⟨s2,e2,g2⟩:=uC d h1 hq eo e
 have h2:=h1.kY g2
 have b2:s2.get n=some (.cells true (cE e)):=g2.get b1 g1.wf
 by_cases ha:bh q e=0
 · rw [if_pos ha]
   rw [ha] at e2 ⊢
   have i2:ab (Z (.ptr n 2)) s2.get=some (I .i64 e.i):=ai b2 rfl
   obtain ⟨k,s3,e3,g3,hF⟩:=AQ (d+6) h2 eo e.i
   have h3:=h2.kY g3
   have b3:s3.get n=some (.cells true (cE e)):=g3.get b2 g2.wf
   have Yv:=g3.wf.lt b3
   have k3:ab (Z (.ptr n 0)) s3.get=some (I .i64 e.k):=ai b3 rfl
   have hm:cd e=true:=by
    unfold bh at ha
    by_cases hm:cd e=true
    · exact hm
    · rw [if_neg hm] at ha;cases ha
   obtain ⟨v0,v1,k0,k1,q1,q2,q3,q4⟩:=er hm
   have KM:=h.gr.wf.lt h.st
   have Wv:=h.gr.wf.lt h.Co
   have SV:b≠n:=by omega
   have Nu:mp≠n:=by omega
   have hxn:∀ c,own x=some c->c<n:=fun c hc=>by rw [hn];exact h.ins.lt h.gr.wf hc
   have O8:=h.bm
   simp only [Nat.add_assoc,Nat.reduceAdd] at e3
   have fin:∀ (σ:St) (y:S) (q':FoS),HG K s0 σ b q' y mp->σ.get n=some (.cells true (cE e))->∃ τ,aw 1 (Z (.ptr b 9)) (I .i64 e.v) σ=some (tt,τ)/\ab (Z (.ptr n 1)) σ.get=some (I .i64 e.v)/\HG K s0 τ b ⟨q'.l,q'.df,q'.iu,q'.v,e.v⟩ y mp:=fun σ y q' H hb=>by
    refine ⟨_,DZ (q':=⟨q'.l,q'.df,q'.iu,q'.v,e.v⟩) (x':=y) H.st (by omega) rfl,ai hb rfl,?_⟩
    have XL:=H.gr.wf.lt H.st
    exact ⟨⟨St.wf_set H.gr.wf XL _,by simpa using H.gr.2.1,fun c hc hK=>by rw [St.aj _ _ (fun e'=>by subst e';exact H.hb hc hK)];exact H.gr.2.2 c hc hK⟩,H.hb,H.hm,St.ar _ _ _,by rw [St.aj _ _ (Ne.symm H.bm)];exact H.Co,
     H.ins.keep fun c hc=>St.aj _ _ (H.ow c hc).2.1,H.ow⟩
   unfold cN
   rcases (by omega:e.k=1\/e.k=2\/e.k=3\/e.k=4) with hk | hk | hk | hk
   · -- a ON comes
     rw [if_pos hk]
     obtain ⟨hx0,i0,i1,_⟩:=q1 hk
     have hni:e.i∉q.df:=by
      unfold bh at ha
      rw [if_pos hm] at ha
      intro hin
      rw [if_pos ⟨hk,hin⟩] at ha
      cases ha
     obtain ⟨hkk,_⟩:=tD hF hq.up hq.Sd i0 i1
     subst hkk
     have m3:ab (Z (.ptr b 1)) s3.get=some (Z (.map mp)):=ai h3.st rfl
     have i3:ab (Z (.ptr n 2)) s3.get=some (I .i64 e.i):=ai b3 rfl
     have ms:=Fe h3.Co hni
     obtain ⟨s4,hs4⟩:∃ s4,s4=s3.set mp (.map (oG (q.df++[e.i]))):=⟨_,rfl⟩
     rw [← hs4] at ms
     have Ym:=g3.wf.lt h3.Co
     have o4:∀ c,c≠mp->s4.get c=s3.get c:=fun c hc=>by rw [hs4];exact St.aj _ _ hc
     have OU:s4.wf:=by rw [hs4];exact St.wf_set g3.wf Ym _
     have z4:s4.size=s3.size:=by rw [hs4];simp
     have b4:s4.get n=some (.cells true (cE e)):=by rw [o4 n (Ne.symm Nu)];exact b3
     have KW:s4.get b=some (.cells true (cF x mp q)):=by rw [o4 b O8];exact h3.st
     have x4:ab (Z (.ptr b 0)) s4.get=some (Z x):=ai KW rfl
     have f2:ab (Z (.ptr n 2)) s4.get=some (I .i64 e.i):=ai b4 rfl
     have f3:ab (Z (.ptr n 3)) s4.get=some (I .i64 e.t):=ai b4 rfl
     have f4:ab (Z (.ptr n 4)) s4.get=some (I .i64 e.f):=ai b4 rfl
     have f5:ab (Z (.ptr n 5)) s4.get=some (I .i64 e.o):=ai b4 rfl
     have f6:ab (Z (.ptr n 6)) s4.get=some (I .u32 e.u):=ai b4 rfl
     have ag:aU (aG [.int .i64 0,.int .i64 0,.int .i64 0,.int .i64 0,.int .u32 0] [(0,1,I .i64 e.i),(1,1,I .i64 e.t),(2,1,I .i64 e.f),(3,1,I .i64 e.o),(4,1,I .u32 e.u)])=some (AI (xU e)):=rfl
     obtain ⟨s5,hs5⟩:∃ s5,s5=s4.push (.cells true (cI (xU e))):=⟨_,rfl⟩
     have Oh:aL s4 (aS 1 (aG [.int .i64 0,.int .i64 0,.int .i64 0,.int .i64 0,.int .u32 0] [(0,5,AI (xU e))]))=some (Z (.sl s4.size 0 1 (.known 1)),s5):=by rw [hs5];rfl
     have g5:Gr s4 s5:=by rw [hs5];exact Gr.push OU _
     have j5:s5.get s4.size=some (.cells true (cI (xU e))):=by rw [hs5];exact St.aq _ _
     have RR:yY s4 x q.l:=h3.ins.keep fun c hc=>o4 c (h.ow c hc).2.2
     have Y3:yY s5 x q.l:=RR.keep fun c hc=>g5.2.2 c (RR.lt OU hc)
     obtain ⟨y,s6,e6,N6⟩:=NM (d+8) g5.wf Y3 eo (Jf q.l e.i) j5 (fun c hc=>by have:=RR.lt OU hc;omega)
     have z5:s4.size<s5.size:=by rw [hs5];simp
     have xb:own x≠some b:=fun hc=>(h.ow b hc).2.1 rfl
     have xm:own x≠some mp:=fun hc=>(h.ow mp hc).2.2 rfl
     have xn:own x≠some n:=fun hc=>by have:=hxn n hc;omega
     have AO:s6.get b=some (.cells true (cF x mp q)):=by rw [N6.old b (by omega) xb,g5.2.2 b (by omega)];exact KW
     have Zp:s6.get mp=some (.map (oG (q.df++[e.i]))):=by rw [N6.old mp (by omega) xm,g5.2.2 mp (by omega),hs4];exact St.ar _ _ _
     have b6:s6.get n=some (.cells true (cE e)):=by rw [N6.old n (by omega) xn,g5.2.2 n (by omega)];exact b4
     obtain ⟨Q,hQ⟩:∃ Q:FoS,Q=⟨tP q.l (xU e),q.df++[e.i],q.iu,q.v,q.w⟩:=⟨_,rfl⟩
     have sS:=DZ (q':=Q) (x':=y) (z:=y) AO (show 0<10 by omega) (by rw [hQ];rfl)
     obtain ⟨s7,fQ⟩:∃ s7,s7=s6.set b (.cells true (cF y mp Q)):=⟨_,rfl⟩
     rw [← fQ] at sS
     have yo:∀ c,own y=some c->(c<s0.size->¬ K c)/\c≠b/\c≠mp:=fun c hc=>by
      rcases N6.new c hc with hx | hx
      · exact h.ow c hx
      · have:=h.gr.2.1
        exact ⟨fun h'=>absurd h' (by omega),by omega,by omega⟩
     have H7:HG K s0 s7 b Q y mp:=by
      have SR:=N6.wf.lt AO
      refine ⟨⟨by rw [fQ];exact St.wf_set N6.wf SR _,?_,fun c hc hK => ?_⟩,h.hb,h.hm,by rw [fQ];exact St.ar _ _ _,?_,?_,yo⟩
      · rw [fQ]
        have:=h.gr.2.1;have:=g1.2.1;have:=g2.2.1;have:=g3.2.1;have:=N6.le
        simp only [St.size_set];omega
      · have h01:=h.gr.2.1
        rw [fQ,St.aj _ _ (fun e'=>by subst e';exact h.hb hc hK),N6.old c (by omega) (fun gO=>(h.ow c gO).1 hc hK),g5.2.2 c (by omega),o4 c (fun e'=>by subst e';exact h.hm hc hK)]
        exact h3.gr.2.2 c hc hK
      · rw [fQ,St.aj _ _ (Ne.symm O8),Zp,hQ]
      · rw [hQ]
        exact N6.ins.keep fun c hc=>by rw [fQ];exact St.aj _ _ (yo c hc).2.1
     have b7:s7.get n=some (.cells true (cE e)):=by rw [fQ,St.aj _ _ (Ne.symm SV)];exact b6
     obtain ⟨s8,yV,RY,H8⟩:=fin s7 y Q H7 b7
     rw [hQ] at H8
     refine ⟨s8,y,?_,H8⟩
     clear fin
     simp only [Nat.add_assoc,Nat.reduceAdd] at e6
     generalize R (d+9)=r at *
     generalize ((lV q.l e.i:Nat):Int)=K at *
     generalize lM q.l e.i (lV q.l e.i)=hit at *
     simp [cZ,l1,e2,i2,e3,ah,k3,hk,m3,i3,ms,x4,f2,f3,f4,f5,f6,ag,Oh,e6,sS,RY,yV,kN]
   · -- a ON goes
     rw [if_neg (by omega),if_pos hk]
     obtain ⟨i0,i1,_⟩:=q2 hk
     obtain ⟨hkk,aaq⟩:=tD hF hq.up hq.Sd i0 i1
     have RL:fe q.l e.i=true:=by
      unfold bh at ha
      rw [if_pos hm,if_neg (by omega)] at ha
      cases ht:fe q.l e.i with
      | true=>rfl
      | false=>rw [if_pos ⟨hk,ht⟩] at ha;cases ha
     subst hkk
     have eZ:=Jg hq.up RL
     have x3:ab (Z (.ptr b 0)) s3.get=some (Z x):=ai h3.st rfl
     have w1:IntKind.i64.wrap (((lV q.l e.i:Nat):Int)+1)=((lV q.l e.i+1:Nat):Int):=by rw [aE _ (by omega) (by omega)];omega
     obtain ⟨y,s6,e6,N6⟩:=Lm (d+8) g3.wf h3.ins eo eZ
     have xb:own x≠some b:=fun hc=>(h.ow b hc).2.1 rfl
     have xm:own x≠some mp:=fun hc=>(h.ow mp hc).2.2 rfl
     have xn:own x≠some n:=fun hc=>by have:=hxn n hc;omega
     have SQ:=g3.wf.lt h3.st
     have S6:=g3.wf.lt h3.Co
     have AO:s6.get b=some (.cells true (cF x mp q)):=by rw [N6.old b SQ xb];exact h3.st
     have Zp:s6.get mp=some (.map (oG q.df)):=by rw [N6.old mp S6 xm];exact h3.Co
     have b6:s6.get n=some (.cells true (cE e)):=by rw [N6.old n Yv xn];exact b3
     obtain ⟨Q,hQ⟩:∃ Q:FoS,Q=⟨xD q.l e.i,q.df,q.iu,q.v,q.w⟩:=⟨_,rfl⟩
     have sS:=DZ (q':=Q) (x':=y) (z:=y) AO (show 0<10 by omega) (by rw [hQ];rfl)
     obtain ⟨s7,fQ⟩:∃ s7,s7=s6.set b (.cells true (cF y mp Q)):=⟨_,rfl⟩
     rw [← fQ] at sS
     have yo:∀ c,own y=some c->(c<s0.size->¬ K c)/\c≠b/\c≠mp:=fun c hc=>by
      rcases N6.new c hc with hx | hx
      · exact h.ow c hx
      · have:=h3.gr.2.1
        exact ⟨fun h'=>absurd h' (by omega),by omega,by omega⟩
     have H7:HG K s0 s7 b Q y mp:=by
      have SR:=N6.wf.lt AO
      refine ⟨⟨by rw [fQ];exact St.wf_set N6.wf SR _,?_,fun c hc hK => ?_⟩,h.hb,h.hm,by rw [fQ];exact St.ar _ _ _,?_,?_,yo⟩
      · rw [fQ]
        have:=h3.gr.2.1;have:=N6.le
        simp only [St.size_set];omega
      · have h03:=h3.gr.2.1
        rw [fQ,St.aj _ _ (fun e'=>by subst e';exact h.hb hc hK),N6.old c (by omega) (fun gO=>(h.ow c gO).1 hc hK)]
        exact h3.gr.2.2 c hc hK
      · rw [fQ,St.aj _ _ (Ne.symm O8),Zp,hQ]
      · rw [hQ]
        exact N6.ins.keep fun c hc=>by rw [fQ];exact St.aj _ _ (yo c hc).2.1
     have b7:s7.get n=some (.cells true (cE e)):=by rw [fQ,St.aj _ _ (Ne.symm SV)];exact b6
     obtain ⟨s8,yV,RY,H8⟩:=fin s7 y Q H7 b7
     rw [hQ] at H8
     refine ⟨s8,y,?_,H8⟩
     clear fin
     simp only [Nat.add_assoc,Nat.reduceAdd] at e6
     generalize R (d+9)=r at *
     generalize ((lV q.l e.i+1:Nat):Int)=K1 at *
     generalize ((lV q.l e.i:Nat):Int)=K at *
     generalize lM q.l e.i (lV q.l e.i)=hit at *
     simp [cZ,l1,e2,i2,e3,ah,k3,hk,x3,w1,e6,sS,RY,yV,kN]
   · -- a view
     rw [if_neg (by omega),if_neg (by omega),if_pos hk]
     have v3:ab (Z (.ptr n 1)) s3.get=some (I .i64 e.v):=ai b3 rfl
     obtain ⟨Q,hQ⟩:∃ Q:FoS,Q=⟨q.l,q.df,q.iu,e.v,q.w⟩:=⟨_,rfl⟩
     have sS:=DZ (q':=Q) (x':=x) (z := .int .i64 e.v) h3.st (show 8<10 by omega) (by rw [hQ];rfl)
     obtain ⟨s7,fQ⟩:∃ s7,s7=s3.set b (.cells true (cF x mp Q)):=⟨_,rfl⟩
     rw [← fQ] at sS
     have H7:HG K s0 s7 b Q x mp:=by
      have SQ:=g3.wf.lt h3.st
      refine ⟨⟨by rw [fQ];exact St.wf_set g3.wf SQ _,by rw [fQ];simpa using h3.gr.2.1,fun c hc hK=>by rw [fQ,St.aj _ _ (fun e'=>by subst e';exact h.hb hc hK)];exact h3.gr.2.2 c hc hK⟩,h.hb,h.hm,by rw [fQ];exact St.ar _ _ _,?_,?_,h.ow⟩
      · rw [fQ,St.aj _ _ (Ne.symm O8),h3.Co,hQ]
      · rw [hQ]
        exact h3.ins.keep fun c hc=>by rw [fQ];exact St.aj _ _ (h.ow c hc).2.1
     have b7:s7.get n=some (.cells true (cE e)):=by rw [fQ,St.aj _ _ (Ne.symm SV)];exact b3
     obtain ⟨s8,yV,RY,H8⟩:=fin s7 x Q H7 b7
     rw [hQ] at H8
     refine ⟨s8,x,?_,H8⟩
     clear fin
     generalize R (d+9)=r at *
     generalize ((k:Nat):Int)=K at *
     generalize lM q.l e.i k=hit at *
     simp [cZ,l1,e2,i2,e3,ah,k3,hk,v3,sS,RY,yV,kN]
   · -- a iu
     rw [if_neg (by omega),if_neg (by omega),if_neg (by omega)]
     have x3:ab (Z (.ptr n 7)) s3.get=some (Z (.str e.x)):=ai b3 rfl
     have hxl:=qh hm
     obtain ⟨s4,e4,g4⟩:=wB (d+2) g3.wf (l:=e.x) (by omega)
     have h4:=h3.kY g4
     have b4:s4.get n=some (.cells true (cE e)):=g4.get b3 g3.wf
     obtain ⟨Q,hQ⟩:∃ Q:FoS,Q=⟨q.l,q.df,(fI e.x).1,q.v,q.w⟩:=⟨_,rfl⟩
     obtain ⟨p,hp⟩:∃ p,p=(fI e.x).1:=⟨_,rfl⟩
     rw [← hp] at e4 hQ
     have sS:aw 6 (Z (.ptr b 2)) (AP p) s4=some (tt,s4.set b (.cells true (cF x mp Q))):=by
      simp only [aw,h4.st]
      rw [if_pos ⟨rfl,by simp [cF]⟩,hQ]
      rfl
     obtain ⟨s7,fQ⟩:∃ s7,s7=s4.set b (.cells true (cF x mp Q)):=⟨_,rfl⟩
     rw [← fQ] at sS
     have H7:HG K s0 s7 b Q x mp:=by
      have SQ:=g4.wf.lt h4.st
      refine ⟨⟨by rw [fQ];exact St.wf_set g4.wf SQ _,by rw [fQ];simpa using h4.gr.2.1,fun c hc hK=>by rw [fQ,St.aj _ _ (fun e'=>by subst e';exact h.hb hc hK)];exact h4.gr.2.2 c hc hK⟩,h.hb,h.hm,by rw [fQ];exact St.ar _ _ _,?_,?_,h.ow⟩
      · rw [fQ,St.aj _ _ (Ne.symm O8),h4.Co,hQ]
      · rw [hQ]
        exact h4.ins.keep fun c hc=>by rw [fQ];exact St.aj _ _ (h.ow c hc).2.1
     have b7:s7.get n=some (.cells true (cE e)):=by rw [fQ,St.aj _ _ (Ne.symm SV)];exact b4
     obtain ⟨s8,yV,RY,H8⟩:=fin s7 x Q H7 b7
     rw [hQ,hp] at H8
     refine ⟨s8,x,?_,H8⟩
     clear fin
     simp only [Nat.add_assoc,Nat.reduceAdd] at e4
     generalize R (d+9)=r at *
     generalize ((k:Nat):Int)=K at *
     generalize lM q.l e.i k=hit at *
     simp [cZ,l1,e2,i2,e3,ah,k3,hk,x3,e4,sS,RY,yV,kN]
 · rw [if_neg ha]
   refine ⟨s2,x,?_,h2⟩
   generalize R (d+9)=r at *
   simp [cZ,l1,e2,ha]
end
section
variable {s0 s t:St} {b mp:Nat} {q:FoS} {x y a:S} {l:List dB}
theorem vv (d:Nat) (wf:s.wf):∃ b mp t,R (d+2) 41 [] s=some (Z (.ptr b 0),t)/\HF s t b lL .ay mp:=by
 rw [ME]
 unfold f41
 obtain ⟨s1,hs1⟩:∃ s1,s1=s.push (.map []):=⟨_,rfl⟩
 have cZ:aL s N7=some (Z (.map s.size),s1):=by rw [hs1];rfl
 have g1:Gr s s1:=by rw [hs1];exact Gr.push wf _
 have m1:s1.get s.size=some (.map []):=by rw [hs1];exact St.aq _ _
 obtain ⟨s2,e2,g2⟩:=qF d g1.wf
 have m2:=g2.get m1 g1.wf
 have hz:=g2.wf.lt m2
 obtain ⟨s3,kZ⟩:∃ s3,s3=s2.push (.cells true (cF .ay s.size lL)):=⟨_,rfl⟩
 have ag:aU (aG [.ay,.mU,.int .i64 0,.int .i64 0,.int .i64 0,.int .i64 0,.int .i64 0,.int .i64 0,.int .i64 0,.int .i64 0] [(1,1,Z (.map s.size)),(2,6,AP lj)])=some (.v (.agg (cF .ay s.size lL))):=rfl
 have Cs:aL s2 (cf (.v (.agg (cF .ay s.size lL))))=some (Z (.ptr s2.size 0),s3):=by rw [kZ];rfl
 have g3:Gr s2 s3:=by rw [kZ];exact Gr.push g2.wf _
 refine ⟨s2.size,s.size,s3,?_,⟨((g1.trans g2).trans g3).1,((g1.trans g2).trans g3).2.1,fun c hc _=>((g1.trans g2).trans g3).2.2 c hc⟩,fun h=>absurd h (by have:=(g1.trans g2).2.1;omega),fun h=>absurd h (by omega),by rw [kZ];exact St.aq _ _,g3.get m2 g2.wf,.inl ⟨rfl,rfl⟩,fun c hc=>by cases hc⟩
 generalize R (d+1)=r at *
 simp [cZ,e2,ag,Cs]
theorem Eu (d:Nat) (wf:s.wf) (h:yY s x l) (hl:l.length<=8000):∃ y t,R (d+1) 97 [Z x] s=some (Z y,t)/\Fr 5 s t y l.length (cells cI l):=by
 rw [Nd]
 unfold f97
 have Ta:=h.rd
 have hlt:∀ c,own x=some c->c<s.size:=fun c hc=>h.lt wf hc
 have jy:=dS (e:=5) eG l
 rcases h with ⟨rfl,rfl⟩ | ⟨c,vs,rfl,hb,ht⟩
 · refine ⟨.ay,s,?_,Fr.nil 5 wf⟩
   have:fT .l (Z .ay) (Z .ay)=some (B true):=rfl
   simp [this]
 · have f0:=Fr.lit 5 wf (n:=0) (vs:=[]) rfl
   obtain ⟨y,t,e,f,_⟩:=f0.append (by_:=40) (by omega) (Ta.gr hlt f0.gr).src jy (by omega)
   have nw:aL s (aS 0 (aG [] []))=some (Z (.sl s.size 0 0 (.known 0)),s.push (.cells true [])):=rfl
   have q1:fT .l (Z (.sl c 0 l.length (.grown 5))) (Z .ay)=some (B false):=rfl
   simp only [Nat.zero_add,List.nil_append] at f
   refine ⟨y,t,?_,f⟩
   simp [q1,nw,e]
theorem mA (d:Nat) {K:Nat->Prop} (h:HG K s0 s b q x mp) (hl:q.l.length<=8000):∃ y t,R (d+2) 48 [Z (.ptr b 0)] s=some (Z y,t)/\Fr 5 s t y q.l.length (cells cI q.l):=by
 obtain ⟨y,t,e,f⟩:=Eu d h.gr.wf h.ins hl
 refine ⟨y,t,?_,f⟩
 rw [MJ]
 unfold f48
 have l0:ab (Z (.ptr b 0)) s.get=some (Z x):=ai h.st rfl
 generalize R (d+1)=r at *
 simp [l0,e]
theorem wJ {g:Mem} (h:g b=some (.cells true (cF x mp q))):aH 6 (Z (.ptr b 2)) g=some (AP q.iu):=by
 simp only [aH,h]
 rw [if_pos (by simp [cF])]
 rfl
def wF (r:Int×FoS) (y:S):T:=if r.1=0 then .eF [.s y,.agg (cP r.2.iu),.s (.int .i64 r.2.v),.s (.int .i64 0)] else .eF [.s .ay,.agg (cP cX),.s (.int .i64 0),.s (.int .i64 r.1)]
set_option maxHeartbeats 1000000 in
theorem tC (d:Nat) (wf:s.wf) {es:List bA} (ha:RE s a es) (hoa:∀ c,own a=some c->c<s.size) (hl:es.length<=8000):∃ y t,R (d+11) 126 [Z a] s=some (wF (bf lL es) y,t)/\Gr s t ∧
 ((bf lL es).1=0->Fr 5 s t y (bf lL es).2.l.length (cells cI (bf lL es).2.l)):=by
 rw [Hl]
 unfold f126
 obtain ⟨rp,WB⟩:∃ rp,rp=s.size:=⟨_,rfl⟩
 obtain ⟨s1,hs1⟩:∃ s1,s1=s.push (.cells true (cP cX)):=⟨_,rfl⟩
 have cZ:aL s (bb [.int .i64 0,.int .i64 0,.int .i64 0,.int .i64 0,.int .i64 0,.int .i64 0])=some (Z (.ptr rp 0),s1):=by rw [hs1,WB];rfl
 have g1:Gr s s1:=by rw [hs1];exact Gr.push wf _
 have r1:s1.get rp=some (.cells true (cP cX)):=by rw [hs1,WB];exact St.aq _ _
 have z1:rp<s1.size:=g1.wf.lt r1
 obtain ⟨b,mp0,s2,e2,h2⟩:=vv (d+8) g1.wf
 simp only [Nat.add_assoc,Nat.reduceAdd] at e2
 have ll:=ha.lens
 obtain ⟨j,τ,lp,hj⟩:=aV (f:=nZ (R (d+10)) 8192)
  (fun q v u=>∃ (k:Nat) (qs:FoS) (x:S) (mp:Nat),q+k=es.length/\v=[Z (.ptr rp 0),Z (.ptr b 0),Z a,I .i64 ((es.length:Nat):Int),I .i64 ((k:Nat):Int)]/\HF s1 u b qs x mp/\FZ qs/\qs.df.length<=k/\bf qs (es.drop k)=bf lL es)
  (fun j u=>(∃ (qs:FoS) (x:S) (mp:Nat),j = .exit 0 [Z (.ptr rp 0),Z (.ptr b 0)]/\HF s1 u b qs x mp/\qs.l.length<=8000/\bf lL es=(0,qs))\/(j = .ret (wF (bf lL es) .ay)/\(bf lL es).1≠0/\Gr s u)) (by
  rintro q v u ⟨k,qs,x,mp,hk,rfl,H,hok,cW,oA⟩
  by_cases eZ:k<es.length
  · have hc:es[k]? = some es[k]:=List.getElem?_eq_getElem eZ
    obtain ⟨e,he⟩:∃ e,e=es[k]:=⟨_,rfl⟩
    rw [← he] at hc
    have m6:es.drop k=e::es.drop (k+1):=by rw [List.drop_eq_getElem_cons eZ,he]
    have hau:RE u a es:=(ha.gr hoa g1).gr (fun c hc=>Nat.lt_of_lt_of_le (hoa c hc) g1.2.1) H.O4
    obtain ⟨p,ix,ld⟩:=hau.VR (n:=((k:Nat):Int)) rfl hc
    have c0:((k:Nat):Int)<((es.length:Nat):Int):=by omega
    have w1:IntKind.i64.wrap ((k:Int)+1)=((k+1:Nat):Int):=by rw [aE _ (by omega) (by omega)];omega
    obtain ⟨u1,Pp⟩:∃ u1,u1=u.push (.cells true (cE bE)):=⟨_,rfl⟩
    have Cs:aL u (bb [.int .i64 0,.int .i64 0,.int .i64 0,.int .i64 0,.int .i64 0,.int .i64 0,.int .u32 0,.str []])=some (Z (.ptr u.size 0),u1):=by rw [Pp];rfl
    have b1:u1.get u.size=some (.cells true (cE bE)):=by rw [Pp];exact St.aq _ _
    have Ni:Gr u u1:=by rw [Pp];exact Gr.push H.O4.wf _
    obtain ⟨u2,zS⟩:∃ u2,u2=u1.set u.size (.cells true (cE e)):=⟨_,rfl⟩
    have yU:aw 8 (Z (.ptr u.size 0)) (AE e) u1=some (tt,u2):=by rw [zS];exact jB b1 rfl
    have TX:Gr u u2:=by
     rw [zS]
     exact ⟨St.wf_set Ni.wf (Ni.wf.lt b1) _,by simpa using Ni.2.1,fun c hc=>by rw [St.aj _ _ (by omega)];exact Ni.2.2 c hc⟩
    have l2:aH 8 (Z (.ptr u.size 0)) u2.get=some (AE e):=c7 (by rw [zS];exact St.ar _ _ _)
    obtain ⟨u3,y,e3,H3⟩:=wo d (H.kY TX) hok (by omega) e
    rw [m6] at oA
    have uW:(if bh qs e=0 then bf (cN qs e) (es.drop (k+1)) else (bh qs e,qs))=bf lL es:=oA
    by_cases hz:bh qs e=0
    · left
      rw [if_pos hz] at H3 uW
      rw [hz] at e3
      refine ⟨[Z (.ptr rp 0),Z (.ptr b 0),Z a,I .i64 ((es.length:Nat):Int),I .i64 ((k+1:Nat):Int)],u3,q-1,?_,by omega,k+1,cN qs e,y,mp,by omega,rfl,H3,DK hok hz,by have:=wj (q:=qs) (e:=e);omega,uW⟩
      unfold nZ
      clear oA uW m6
      generalize R (d+10)=r at *
      generalize ((k+1:Nat):Int)=K1 at *
      generalize ((k:Nat):Int)=K at *
      generalize ((es.length:Nat):Int)=LL at *
      generalize u.size=us at *
      simp [c0,ix,ld,Cs,yU,kN,l2,e3,w1]
    · right
      rw [if_neg hz] at H3 uW
      have r3:u3.get rp=some (.cells true (cP cX)):=by rw [H3.O4.2.2 rp z1];exact r1
      have sr:aw 6 (Z (.ptr rp 0)) (AP cX) u3=some (tt,u3.set rp (.cells true (cP cX))):=mi r3 rfl
      obtain ⟨u4,KN⟩:∃ u4,u4=u3.set rp (.cells true (cP cX)):=⟨_,rfl⟩
      rw [← KN] at sr
      have lr:aH 6 (Z (.ptr rp 0)) u4.get=some (AP cX):=qS (by rw [KN];exact St.ar _ _ _)
      have F5:Gr s u4:=by
       rw [KN]
       have Ra:=g1.trans H3.O4
       exact ⟨St.wf_set Ra.wf (by have:=H3.O4.2.1;omega) _,by simpa using Ra.2.1,fun c hc=>by rw [St.aj _ _ (by omega)];exact Ra.2.2 c hc⟩
      refine ⟨.ret (wF (bf lL es) .ay),u4,?_,(fun v hv=>by cases hv),.inr ⟨rfl,by rw [← uW];exact hz,F5⟩⟩
      have hres:wF (bf lL es) .ay = .eF [.s .ay,.agg (cP cX),.s (.int .i64 0),.s (.int .i64 (bh qs e))]:=by
       rw [← uW]
       exact if_neg hz
      rw [hres]
      unfold nZ
      clear oA uW m6 hres
      generalize R (d+10)=r at *
      generalize ((k+1:Nat):Int)=K1 at *
      generalize ((k:Nat):Int)=K at *
      generalize ((es.length:Nat):Int)=LL at *
      generalize u.size=us at *
      generalize bh qs e=C at *
      simp [c0,ix,ld,Cs,yU,kN,l2,e3,hz,K8,sr,lr,rC,rT,aQ,bK]
  · right
    have Nq:k=es.length:=by omega
    have c0:¬ ((k:Nat):Int)<((es.length:Nat):Int):=by omega
    rw [List.drop_eq_nil_of_le (by omega)] at oA
    refine ⟨.exit 0 [Z (.ptr rp 0),Z (.ptr b 0)],u,?_,(fun v hv=>by cases hv),.inl ⟨qs,x,mp,rfl,H,by have:=hok.len;omega,oA.symm⟩⟩
    unfold nZ
    simp [c0]) 8192 es.length [Z (.ptr rp 0),Z (.ptr b 0),Z a,I .i64 ((es.length:Nat):Int),I .i64 0] s2
  ⟨0,lL,.ay,mp0,by omega,rfl,h2,BZ,Nat.le_refl _,by rw [List.drop_zero]⟩ (by omega)
 rcases hj with ⟨qs,x,mp,rfl,H,yO,oA⟩ | ⟨rfl,hne,g⟩
 · obtain ⟨y,t,e4,f4⟩:=mA (d+8) H yO
   simp only [Nat.add_assoc,Nat.reduceAdd] at e4
   have H4:=H.kY f4.gr
   have a1:=wJ H.st
   have a2:=wJ H4.st
   have v1:ab (Z (.ptr b 8)) τ.get=some (I .i64 qs.v):=ai H.st rfl
   have v2:ab (Z (.ptr b 8)) t.get=some (I .i64 qs.v):=ai H4.st rfl
   have r4:t.get rp=some (.cells true (cP cX)):=by rw [H4.O4.2.2 rp z1];exact r1
   have sr:aw 6 (Z (.ptr rp 0)) (AP qs.iu) t=some (tt,t.set rp (.cells true (cP qs.iu))):=mi r4 rfl
   obtain ⟨u4,KN⟩:∃ u4,u4=t.set rp (.cells true (cP qs.iu)):=⟨_,rfl⟩
   rw [← KN] at sr
   have SW:b≠rp:=fun e'=>H.hb (by omega) trivial
   have v3:ab (Z (.ptr b 8)) u4.get=some (I .i64 qs.v):=ai (by rw [KN,St.aj _ _ SW];exact H4.st) rfl
   have lr:aH 6 (Z (.ptr rp 0)) u4.get=some (AP qs.iu):=qS (by rw [KN];exact St.ar _ _ _)
   have Nj:=g1.trans H4.O4
   have WA:=Nj.wf.lt r4
   have F5:Gr s u4:=by
    rw [KN]
    exact ⟨St.wf_set Nj.wf WA _,by simpa using Nj.2.1,fun c hc=>by rw [St.aj _ _ (by omega)];exact Nj.2.2 c hc⟩
   rw [oA]
   have hres:wF ((0:Int),qs) y = .eF [.s y,.agg (cP qs.iu),.s (.int .i64 qs.v),.s (.int .i64 0)]:=rfl
   refine ⟨y,u4,?_,F5,fun _ => ?_⟩
   · rw [hres]
     clear oA hres
     generalize R (d+10)=r at *
     generalize ((es.length:Nat):Int)=LL at *
     simp [cZ,e2,ll,lp,e4,a1,a2,v1,v2,v3,sr,kN,lr,rC,rT,aQ,bK]
   · have ph:rp<τ.size:=by have:=H.gr.2.1;omega
     refine ⟨F5,f4.ow.keep fun c hc => ?_,fun c hc => ?_⟩
     · have:=(f4.new c hc).1
       rw [KN,St.aj _ _ (by omega)]
     · have:=f4.new c hc
       have:=H.gr.2.1
       have:=g1.2.1
       rw [KN]
       simp only [St.size_set]
       omega
 · refine ⟨.ay,τ,?_,g,fun h=>(hne h).elim⟩
   generalize wF (bf lL es) .ay=RF at *
   generalize R (d+10)=r at *
   generalize ((es.length:Nat):Int)=LL at *
   simp [cZ,e2,ll,lp]
end
structure mS where
 p:Nat
 i:Nat
 m:Nat
 b:Nat
 mp:Nat
 lx:S
 ex:S
 qx:S
structure Ts (ρ:Nat->Nat) (B:mS) (fs:List Fl):Prop where
 p:ρ B.p=1
 b:ρ B.b=2
 mp:ρ B.mp=3
 lx:∀ c,own B.lx=some c->ρ c=4
 ex:∀ c,own B.ex=some c->ρ c=5
 qx:∀ c,own B.qx=some c->ρ c=6
 i:ρ B.i=0
 m:ρ B.m=0
 fb:∀ f∈fs,ρ f.fb=0
 fx:∀ f∈fs,∀ c,own f.x=some c->ρ c=0
structure aX (ρ:Nat->Nat) (s:St) (B:mS) (room:Int) (fs:List Fl) (l:List bA) (q:FoS) (sure:Nat):Prop where
 dk:Dk s B.i B.m room fs
 st:s.get B.p=some (.cells true [.ptr B.i 0,B.lx,B.ex,.ptr B.b 0,.int .i64 sure])
 le:Ow 8 s B.lx l.length (cells cE l)
 en:Ow 1 s B.ex l.length ((mX l).map (S.int .i64))
 hf:HG (fun c=>c≠B.b/\c≠B.mp/\own B.qx≠some c) s s B.b q B.qx B.mp
 ro:Ts ρ B fs
 fo:bf lL l=(0,q)
 wf:∀ e∈l,pb e
 Dj:l.length<=2000
 su:sure<=l.length
section
variable {ρ ρ':Nat->Nat} {s t:St} {B:mS} {room:Int} {fs:List Fl} {l:List bA} {q:FoS} {sure:Nat} {i m:Nat}
theorem Dk.qL (h:Dk s i m room fs) (wf:t.wf) (hz:s.size<=t.size) (hi:t.get i=s.get i) (hm:t.get m=s.get m) (hf:∀ f∈fs,t.get f.fb=s.get f.fb/\∀ c,own f.x=some c->t.get c=s.get c):Dk t i m room fs:=by
 refine ⟨wf,by rw [hi];exact h.ri,by rw [hm];exact h.mp,fun k f hk => ?_,h.ap,h.nm⟩
 obtain ⟨a1,a2,a3⟩:=h.fl k f hk
 obtain ⟨b1,b2⟩:=hf f (List.mem_of_getElem? hk)
 exact ⟨by rw [b1];exact a1,a2.keep b2,a3⟩
theorem Dk.Bj (h:Dk s i m room fs):i<s.size/\m<s.size/\∀ f∈fs,f.fb<s.size/\∀ c,own f.x=some c->c<s.size:=by
 refine ⟨h.wf.lt h.ri,h.wf.lt h.mp,fun f hf => ?_⟩
 obtain ⟨k,hk⟩:=List.getElem?_of_mem hf
 obtain ⟨a1,a2,_⟩:=h.fl k f hk
 exact ⟨h.wf.lt a1,fun c hc=>a2.lt h.wf hc⟩
theorem HG.qL {K K':Nat->Prop} {s0:St} {b mp:Nat} {x:S} (h:HG K s0 s b q x mp) (wf:t.wf) (hb:t.get b=s.get b) (hm:t.get mp=s.get mp) (hx:∀ c,own x=some c->t.get c=s.get c) :
 HG (fun c=>c≠b/\c≠mp/\own x≠some c) t t b q x mp :=
 ⟨⟨wf,Nat.le_refl _,fun _ _ _=>rfl⟩,fun _ k=>k.1 rfl,fun _ k=>k.2.1 rfl,by rw [hb];exact h.st,by rw [hm];exact h.Co,h.ins.keep hx,fun c hc=>⟨fun _ k=>k.2.2 hc,(h.ow c hc).2⟩⟩
theorem aX.nK (h:aX ρ s B room fs l q sure):s.wf:=h.dk.wf
theorem aX.Bj (h:aX ρ s B room fs l q sure):B.p<s.size/\B.b<s.size/\B.mp<s.size/\(∀ c,own B.lx=some c->c<s.size)/\(∀ c,own B.ex=some c->c<s.size)/\(∀ c,own B.qx=some c->c<s.size) :=
 ⟨h.nK.lt h.st,h.nK.lt h.hf.st,h.nK.lt h.hf.Co,fun c hc=>h.le.lt h.nK hc,fun c hc=>h.en.lt h.nK hc,fun c hc=>h.hf.ins.lt h.nK hc⟩
theorem aX.keep (h:aX ρ s B room fs l q sure) (wf:t.wf) (hz:s.size<=t.size) (hk:∀ c,c<s.size->ρ c<7->t.get c=s.get c):aX ρ t B room fs l q sure:=by
 obtain ⟨p1,p2,p3,p4,p5,p6⟩:=h.Bj
 obtain ⟨d1,d2,d3⟩:=h.dk.Bj
 have r:=h.ro
 have k:=fun c hc (n:Nat) (e:ρ c=n) (hn:n<7)=>hk c hc (by omega)
 exact ⟨h.dk.qL wf hz (k _ d1 0 r.i (by omega)) (k _ d2 0 r.m (by omega)) (fun f hf=>⟨k _ (d3 f hf).1 0 (r.fb f hf) (by omega),fun c hc=>k _ ((d3 f hf).2 c hc) 0 (r.fx f hf c hc) (by omega)⟩),
  by rw [k _ p1 1 r.p (by omega)];exact h.st,h.le.keep fun c hc=>k _ (p4 c hc) 4 (r.lx c hc) (by omega),h.en.keep fun c hc=>k _ (p5 c hc) 5 (r.ex c hc) (by omega),
  h.hf.qL (K':=fun _=>True) wf (k _ p2 2 r.b (by omega)) (k _ p3 3 r.mp (by omega)) (fun c hc=>k _ (p6 c hc) 6 (r.qx c hc) (by omega)),r,h.fo,h.wf,h.Dj,h.su⟩
theorem aX.gr (h:aX ρ s B room fs l q sure) (g:Gr s t):aX ρ t B room fs l q sure:=h.keep g.1 g.2.1 fun c hc _=>g.2.2 c hc
theorem aX.ZT (h:aX ρ s B room fs l q sure) (hρ:∀ c,c<s.size->ρ' c=ρ c):aX ρ' s B room fs l q sure:=by
 obtain ⟨p1,p2,p3,p4,p5,p6⟩:=h.Bj
 obtain ⟨d1,d2,d3⟩:=h.dk.Bj
 have r:=h.ro
 exact ⟨h.dk,h.st,h.le,h.en,h.hf,⟨by rw [hρ _ p1];exact r.p,by rw [hρ _ p2];exact r.b,by rw [hρ _ p3];exact r.mp,fun c hc=>by rw [hρ _ (p4 c hc)];exact r.lx c hc,fun c hc=>by rw [hρ _ (p5 c hc)];exact r.ex c hc,
  fun c hc=>by rw [hρ _ (p6 c hc)];exact r.qx c hc,by rw [hρ _ d1];exact r.i,by rw [hρ _ d2];exact r.m,fun f hf=>by rw [hρ _ (d3 f hf).1];exact r.fb f hf,fun f hf c hc=>by rw [hρ _ ((d3 f hf).2 c hc)];exact r.fx f hf c hc⟩,h.fo,h.wf,h.Dj,h.su⟩
end
section
variable {ρ ρ':Nat->Nat} {s t:St} {D:mS} {room:Int} {fs:List Fl} {l:List bA} {q:FoS} {sure:Nat} {i m:Nat} {e:bA}
theorem DO {g g':Mem} {P i j:Nat} {x:S} {vs:List S} {l:List (Nat×Nat×dV)} (h:g i=some (.cells true vs)) (h':g' i=some (.cells true vs)) (hx:vs[j]? = some x) (hl:∀ q k b,(q,k,b)∈l->k≠i) :
 ab (Z (.ptr i j)) (cA P g l)=ab (Z (.ptr i j)) g':=by
 have e:cA P g l i=g i:=oK P g i l fun q k b hm _=>hl q k b hm
 rw [ai (e.trans h) hx,ai h' hx]
theorem yd {k n:Nat} {x:K3} {r:List (Nat×Nat×dV)} {q j:Nat} {b:dV} (h:(q,j,b)∈Cx k n x r):j=n\/(q,j,b)∈r:=by
 unfold Cx at h
 split at h
 · rcases List.mem_cons.1 h with h | h
   · cases h;exact .inl rfl
   · exact .inr h
 · exact .inr h
abbrev yK (i b:Nat) (lx ex:S) (sure:Nat):List S:=[.ptr i 0,lx,ex,.ptr b 0,.int .i64 sure]
theorem wD (d:Nat) {p b:Nat} {lx ex:S} (hp:s.get p=some (.cells true (yK i b lx ex sure))) (he:Rd 1 s ex l.length ((mX l).map (S.int .i64))) {n:Nat} (hn:n<=l.length) (hl:l.length<=3000) :
 R (d+1) 46 [Z (.ptr p 0),I .i64 n] s=some (I .i64 (cL l n:Nat),s):=by
 rw [MH]
 unfold f46
 cases n with
 | zero=>simp [me]
 | succ n =>
   have l2:ab (Z (.ptr p 2)) s.get=some (Z ex):=ai hp rfl
   have w1:IntKind.i64.wrap (((n+1:Nat):Int)-1)=(n:Int):=by rw [aE _ (by omega) (by omega)];omega
   obtain ⟨P,ix,ld⟩:=he.yJ (i:=(n:Int)) (j:=n) (v := .int .i64 (cL l (n+1):Nat)) rfl (by rw [List.getElem?_map,ED (by omega)];rfl)
   have c0:¬ ((n+1:Nat):Int)=0:=by omega
   generalize ((n+1:Nat):Int)=N1 at *
   generalize ((cL l (n+1):Nat):Int)=PL at *
   generalize (n:Int)=NN at *
   simp [c0,l2,w1,ix,ld]
theorem aX.ok (h:aX ρ s D room fs l q sure):l.all cd=true/\FZ q/\q.df.length<=2000:=by
 obtain ⟨h1,h2,h3⟩:=pN h.fo BZ
 have:=h.Dj
 exact ⟨h1,h2,by simp [lL] at h3;omega⟩
set_option maxHeartbeats 1000000 in
theorem Ak (d:Nat) (h:aX ρ s D room fs l q sure) (he:bh q e=0) (hw:pb e) (hl:l.length<2000) :
 ∃ ρ' D' t,R (d+11) 44 [Z (.ptr D.p 0),AE e] s=some (B true,t)/\aX ρ' t D' room fs (l++[e]) (cN q e) sure/\s.size<=t.size/\(D'.p=D.p/\D'.i=D.i/\D'.m=D.m) ∧
   (∀ c,c<s.size->ρ' c=ρ c)/\∀ c,c<s.size->(ρ c=0\/7<=ρ c)->t.get c=s.get c:=by
 obtain ⟨p1,p2,p3,p4,p5,p6⟩:=h.Bj
 obtain ⟨hall,hok,cW⟩:=h.ok
 have r:=h.ro
 have hm:=dN he
 obtain ⟨s1,hs1⟩:∃ s1,s1=s.push (.cells true (cE e)):=⟨_,rfl⟩
 have cZ:aL s (cf (AE e))=some (Z (.ptr s.size 0),s1):=by rw [hs1];rfl
 have g1:Gr s s1:=by rw [hs1];exact Gr.push h.nK _
 have b1:s1.get s.size=some (.cells true (cE e)):=by rw [hs1];exact St.aq _ _
 have l1:=c7 (g:=s1.get) b1
 have z1:s1.size=s.size+1:=by rw [hs1];simp
 obtain ⟨y,s2,e2,g2,f2⟩:=pO d g1.wf e hw
 have uV:eH e=some (aZ (bj e)):=by unfold eH;rw [if_pos hm]
 have fb:=f2 _ uV
 rw [uV] at e2
 have ly:=fb.rd.lens
 have b2:=g2.get b1 g1.wf
 have l2:=c7 (g:=s2.get) b2
 have Ih:=g1.trans g2
 have h2:=h.gr Ih
 have z2:=g2.2.1
 have q3:ab (Z (.ptr D.p 3)) s2.get=some (Z (.ptr D.b 0)):=ai h2.st rfl
 obtain ⟨s3,y3,e3,H3⟩:=wo d h2.hf hok (by omega) e
 rw [he] at e3 H3
 rw [if_pos rfl] at H3
 have k3:=H3.gr.2.2
 have z3:=H3.gr.2.1
 have kp:∀ c,c<s2.size->c≠D.b->c≠D.mp->own D.qx≠some c->s3.get c=s2.get c:=fun c hc a1 a2 a3=>k3 c hc ⟨a1,a2,a3⟩
 have kr:∀ c,c<s.size->ρ c≠2->ρ c≠3->ρ c≠6->s3.get c=s.get c:=fun c hc a1 a2 a3=>by
  rw [kp c (by omega) (fun e=>a1 (by rw [e];exact r.b)) (fun e=>a2 (by rw [e];exact r.mp)) (fun e=>a3 (r.qx c e)),Ih.2.2 c hc]
 have FJ:s3.get D.p=some (.cells true (yK D.i D.b D.lx D.ex sure)):=by rw [kr _ p1 (by rw [r.p];decide) (by rw [r.p];decide) (by rw [r.p];decide)];exact h.st
 have le3:Ow 8 s3 D.lx l.length (cells cE l):=h.le.keep fun c hc=>kr c (p4 c hc) (by rw [r.lx c hc];decide) (by rw [r.lx c hc];decide) (by rw [r.lx c hc];decide)
 have en3:Ow 1 s3 D.ex l.length ((mX l).map (S.int .i64)):=h.en.keep fun c hc=>kr c (p5 c hc) (by rw [r.ex c hc];decide) (by rw [r.ex c hc];decide) (by rw [r.ex c hc];decide)
 have b3:s3.get s.size=some (.cells true (cE e)):=by
  rw [kp _ (by omega) (by omega) (by omega) (fun hc=>by have:=p6 _ hc;omega)]
  exact b2
 have q2:ab (Z (.ptr D.p 2)) s3.get=some (Z D.ex):=ai FJ rfl
 have q1:ab (Z (.ptr D.p 1)) s3.get=some (Z D.lx):=ai FJ rfl
 have ll:=le3.rd.lens
 have e4:=wD (d+9) (l:=l) FJ en3.rd (Nat.le_refl _) (by omega)
 rw [dK] at e4
 have hfl:=qI l hall
 have Pr:=iP uV
 obtain ⟨E1,hE1⟩:∃ E1:Int,E1=(((aF l).length+(aZ (bj e)).length:Nat):Int):=⟨_,rfl⟩
 have w1:IntKind.i64.wrap (((aF l).length:Int)+((aZ (bj e)).length:Int))=E1:=by rw [hE1,aE _ (by omega) (by omega)];omega
 have L5:=Fr.lit 1 H3.gr.wf (n:=1) (vs:=[.int .i64 E1]) rfl
 obtain ⟨s5,hs5⟩:∃ s5,s5=s3.push (.cells true [.int .i64 E1]):=⟨_,rfl⟩
 rw [← hs5] at L5
 have Oh:aL s3 (aS 1 (aG [.int .i64 0] [(0,1,I .i64 E1)]))=some (Z (.sl s3.size 0 1 (.known 1)),s5):=by rw [hs5];simp [aL,aS,aG,V.cells,aO]
 have z5:s5.size=s3.size+1:=by rw [hs5];simp
 obtain ⟨F2,s6,SD,VI,z6,en6,Zx,Zt⟩:=(en3.gr H3.gr.wf L5.gr).append (by_:=8) L5.gr.wf (by omega) L5.rd.src rfl (by omega)
 have pex:own D.ex≠some D.p:=fun hc=>by have:=r.ex _ hc;rw [r.p] at this;cases this
 have ZA:own D.lx≠some D.p:=fun hc=>by have:=r.lx _ hc;rw [r.p] at this;cases this
 have k6:∀ c,c<s3.size->own D.ex≠some c->s6.get c=s3.get c:=fun c hc hx=>by rw [Zx c (by omega) hx,L5.gr.2.2 c hc]
 have AO:s6.get D.p=some (.cells true (yK D.i D.b D.lx D.ex sure)):=by rw [k6 _ (by omega) pex];exact FJ
 obtain ⟨s7,fQ⟩:∃ s7,s7=s6.set D.p (.cells true (yK D.i D.b D.lx F2 sure)):=⟨_,rfl⟩
 have VC:aw 1 (Z (.ptr D.p 2)) (Z F2) s6=some (tt,s7):=by rw [fQ];exact aW AO (by simp)
 have k7:∀ c,c≠D.p->s7.get c=s6.get c:=fun c hc=>by rw [fQ,St.aj _ _ hc]
 have z7:s7.size=s6.size:=by rw [fQ];simp
 have wf7:s7.wf:=by rw [fQ];exact St.wf_set VI (by omega) _
 have p7:s7.get D.p=some (.cells true (yK D.i D.b D.lx F2 sure)):=by rw [fQ,St.ar]
 have KD:ab (Z (.ptr D.p 2)) (cA 12 s3.get (Cx 15 s3.size (aS 1 (aG [.int .i64 0] [(0,1,I .i64 E1)])) []))=ab (Z (.ptr D.p 2)) s3.get :=
  DO FJ FJ rfl fun q j b hm=>by
   rcases yd hm with rfl | hm
   · omega
   · cases hm
 have Vo:ab (Z (.ptr D.p 1)) s7.get=some (Z D.lx):=ai p7 rfl
 have exs:own D.ex≠some s.size:=fun hc=>by have:=p5 _ hc;omega
 have lxs:own D.lx≠some s.size:=fun hc=>by have:=p4 _ hc;omega
 have b7:s7.get s.size=some (.cells true (cE e)):=by rw [k7 _ (by omega),k6 _ (by omega) exs];exact b3
 have l7:=c7 (g:=s7.get) b7
 have exl:∀ c,own D.lx=some c->own D.ex≠some c:=fun c hc hx=>by have a:=r.lx c hc;rw [r.ex c hx] at a;cases a
 have le7:Ow 8 s7 D.lx l.length (cells cE l):=le3.keep fun c hc=>by rw [k7 c (fun e=>ZA (e ▸ hc)),k6 c (by have:=p4 c hc;omega) (exl c hc)]
 have L8:=Fr.lit 8 wf7 (n:=1) (vs:=cE e) rfl
 obtain ⟨s8,vO⟩:∃ s8,s8=s7.push (.cells true (cE e)):=⟨_,rfl⟩
 rw [← vO] at L8
 have nw8:aL s7 (aS 1 (aG [.int .i64 0,.int .i64 0,.int .i64 0,.int .i64 0,.int .i64 0,.int .i64 0,.int .u32 0,.str []] [(0,8,AE e)]))=some (Z (.sl s7.size 0 1 (.known 1)),s8):=by rw [vO];rfl
 have z8:s8.size=s7.size+1:=by rw [vO];simp
 obtain ⟨Bk,s9,ap9,Z4,z9,le9,Jz,Zu⟩:=(le7.gr wf7 L8.gr).append (by_:=72) L8.gr.wf (by omega) L8.rd.src rfl (by omega)
 have k9:∀ c,c<s7.size->own D.lx≠some c->s9.get c=s7.get c:=fun c hc hx=>by rw [Jz c (by omega) hx,L8.gr.2.2 c hc]
 have Gl:s9.get D.p=some (.cells true (yK D.i D.b D.lx F2 sure)):=by rw [k9 _ (by omega) ZA];exact p7
 obtain ⟨bM,lR⟩:∃ bM,bM=s9.set D.p (.cells true (yK D.i D.b Bk F2 sure)):=⟨_,rfl⟩
 have FI:aw 1 (Z (.ptr D.p 1)) (Z Bk) s9=some (tt,bM):=by rw [lR];exact aW Gl (by simp)
 have KR:∀ c,c≠D.p->bM.get c=s9.get c:=fun c hc=>by rw [lR,St.aj _ _ hc]
 have Z7:bM.size=s9.size:=by rw [lR];simp
 have FU:bM.wf:=by rw [lR];exact St.wf_set Z4 (by omega) _
 have p10:bM.get D.p=some (.cells true (yK D.i D.b Bk F2 sure)):=by rw [lR,St.ar]
 have kk:∀ c,c<s3.size->c≠D.p->own D.ex≠some c->own D.lx≠some c->bM.get c=s3.get c:=fun c hc a1 a2 a3=>by
  rw [KR c a1,k9 c (by omega) a3,k7 c a1,k6 c hc a2]
 have Zv:∀ c,own F2=some c->own D.ex=some c\/s5.size<=c:=fun c hc=>by
  rcases Zt with e | e | ⟨c',e,gO⟩
  · rw [e] at hc;cases hc
  · rw [e] at hc;exact .inl hc
  · rw [e] at hc;cases hc;exact .inr gO
 have olx:∀ c,own Bk=some c->own D.lx=some c\/s8.size<=c:=fun c hc=>by
  rcases Zu with e | e | ⟨c',e,gO⟩
  · rw [e] at hc;cases hc
  · rw [e] at hc;exact .inl hc
  · rw [e] at hc;cases hc;exact .inr gO
 have oq:∀ c,own y3=some c->own D.qx=some c\/s2.size<=c:=fun c hc=>by
  obtain ⟨a1,a2,a3⟩:=H3.ow c hc
  by_cases hlt:c<s2.size
  · left
    by_cases hx:own D.qx=some c
    · exact hx
    · exact absurd ⟨a2,a3,hx⟩ (a1 hlt)
  · exact .inr (by omega)
 obtain ⟨ρ',hρ⟩:∃ ρ':Nat->Nat,ρ'=fun c=>if c<s.size then ρ c else if c<s2.size then 9 else if c<s3.size then 6 else if c<s7.size then 5 else 4:=⟨_,rfl⟩
 have rJ:∀ c,c<s.size->ρ' c=ρ c:=fun c hc=>by rw [hρ];exact if_pos hc
 have IW:∀ c,s2.size<=c->c<s3.size->ρ' c=6:=fun c a b=>by rw [hρ];dsimp only;rw [if_neg (by omega),if_neg (by omega),if_pos b]
 have UY:∀ c,s3.size<=c->c<s7.size->ρ' c=5:=fun c a b=>by rw [hρ];dsimp only;rw [if_neg (by omega),if_neg (by omega),if_neg (by omega),if_pos b]
 have zU:∀ c,s7.size<=c->ρ' c=4:=fun c a=>by rw [hρ];dsimp only;rw [if_neg (by omega),if_neg (by omega),if_neg (by omega),if_neg (by omega)]
 obtain ⟨d1,d2,d3⟩:=h.dk.Bj
 have kd:∀ c,c<s.size->(ρ c=0\/7<=ρ c)->bM.get c=s.get c:=fun c hc hr=>by
  rw [kk c (by omega) (fun e=>by rw [e,r.p] at hr;omega) (fun e=>by have:=r.ex c e;omega) (fun e=>by have:=r.lx c e;omega),kr c hc (by omega) (by omega) (by omega)]
 have ri:=r.i
 have rm:=r.m
 have qlt:∀ c,own y3=some c->c<s3.size:=fun c hc=>H3.ins.lt H3.gr.wf hc
 have xlt:∀ c,own F2=some c->c<s6.size:=fun c hc=>en6.lt VI hc
 have ZE:∀ c,own y3=some c->c≠D.p/\own D.ex≠some c/\own D.lx≠some c:=fun c hc=>by
  rcases oq c hc with e | e
  · have:=r.qx c e
    exact ⟨(fun e'=>by rw [e',r.p] at this;cases this),(fun e'=>by rw [r.ex c e'] at this;cases this),(fun e'=>by rw [r.lx c e'] at this;cases this)⟩
  · exact ⟨by omega,fun e'=>by have:=p5 c e';omega,fun e'=>by have:=p4 c e';omega⟩
 refine ⟨ρ',{ D with lx:=Bk,ex:=F2,qx:=y3 },bM,?_,⟨?_,p10,?_,?_,?_,⟨?_,?_,?_,?_,?_,?_,?_,?_,?_,?_⟩,fk h.fo he,?_,by simp;omega,by simp;have:=h.su;omega⟩,by omega,⟨rfl,rfl,rfl⟩,rJ,kd⟩
 · rw [MG]
   unfold f44
   clear hρ rJ IW UY zU kd kk
   simp only [Nat.add_assoc,Nat.reduceAdd] at e2 e3 e4
   generalize R (d+10)=rr at *
   generalize ((aZ (bj e)).length:Int)=WL at *
   generalize ((aF l).length:Int)=FL at *
   generalize (l.length:Int)=LL at *
   simp [cZ,l1,e2,ah,q3,l2,e3,q2,q1,ll,e4,ly,w1,Oh,SD,VC,KD,Vo,l7,nw8,ap9,FI]
 · exact h.dk.qL FU (by omega) (kd _ d1 (.inl ri)) (kd _ d2 (.inl rm)) fun f hf=>⟨kd _ (d3 f hf).1 (.inl (r.fb f hf)),fun c hc=>kd _ ((d3 f hf).2 c hc) (.inl (r.fx f hf c hc))⟩
 · have:=le9.keep (t:=bM) fun c hc=>KR c (by
    rcases olx c hc with e | e
    · exact fun e'=>ZA (e' ▸ e)
    · omega)
   rw [fD]
   simpa using this
 · have:=en6.keep (t:=bM) fun c hc=>by
    have SX:c≠D.p:=by
     rcases Zv c hc with e | e
     · exact fun e'=>pex (e' ▸ e)
     · omega
    rw [KR c SX,k9 c (by have:=xlt c hc;omega) (fun e'=>by
     rcases Zv c hc with e | e
     · exact exl c e' e
     · have:=p4 c e';omega),k7 c SX]
   rw [BR,List.map_append,← hE1]
   simpa using this
 · exact H3.qL (K':=fun _=>True) FU (kk _ (by omega) (fun e=>by have:=r.b;rw [e,r.p] at this;cases this) (fun e=>by have:=r.ex _ e;rw [r.b] at this;cases this) (fun e=>by have:=r.lx _ e;rw [r.b] at this;cases this))
    (kk _ (by omega) (fun e=>by have:=r.mp;rw [e,r.p] at this;cases this) (fun e=>by have:=r.ex _ e;rw [r.mp] at this;cases this) (fun e=>by have:=r.lx _ e;rw [r.mp] at this;cases this))
    (fun c hc=>kk c (qlt c hc) (ZE c hc).1 (ZE c hc).2.1 (ZE c hc).2.2)
 · rw [rJ _ p1];exact r.p
 · rw [rJ _ p2];exact r.b
 · rw [rJ _ p3];exact r.mp
 · intro c hc
   rcases olx c hc with e | e
   · rw [rJ c (p4 c e)];exact r.lx c e
   · exact zU c (by omega)
 · intro c hc
   rcases Zv c hc with e | e
   · rw [rJ c (p5 c e)];exact r.ex c e
   · exact UY c (by omega) (by have:=xlt c hc;omega)
 · intro c hc
   rcases oq c hc with e | e
   · rw [rJ c (p6 c e)];exact r.qx c e
   · exact IW c e (qlt c hc)
 · rw [rJ _ d1];exact ri
 · rw [rJ _ d2];exact rm
 · intro f hf
   rw [rJ _ (d3 f hf).1];exact r.fb f hf
 · intro f hf c hc
   rw [rJ _ ((d3 f hf).2 c hc)];exact r.fx f hf c hc
 · intro x hx
   rcases List.mem_append.1 hx with hx | hx
   · exact h.wf x hx
   · rw [List.mem_singleton] at hx
     rw [hx];exact hw
end
end Go.Proofs.YtbohejffelipoaaGreatDoor
