/-
  Several texts in one: what functions that the law reaches compute. No conditions but those named in each line.
-/
import Derived.Test.YtbohejffelipoaaGreatDoorFnsC
import Derived.Test.YtbohejffelipoaaGreatDoorFnsA
import Derived.Test.YtbohejffelipoaaGreatDoorFnsB
import Derived.Test.YtbohejffelipoaaGreatDoorAbsE
namespace Go.Proofs.YtbohejffelipoaaGreatDoor
open Go Go.Abs Go.Abs.F
set_option linter.unusedVariables false
structure Kp (ρ ρ':Nat->Nat) (s t:St):Prop where
 sz:s.size<=t.size
 ro:∀ c,c<s.size->ρ' c=ρ c
 kp:∀ c,c<s.size->ρ c≠0->t.get c=s.get c
theorem Kp.refl (ρ:Nat->Nat) (s:St):Kp ρ ρ s s:=⟨Nat.le_refl _,fun _ _=>rfl,fun _ _ _=>rfl⟩
theorem Kp.trans {ρ ρ' ρ'':Nat->Nat} {s t u:St} (h:Kp ρ ρ' s t) (k:Kp ρ' ρ'' t u):Kp ρ ρ'' s u :=
 ⟨Nat.le_trans h.sz k.sz,fun c hc=>by rw [k.ro c (Nat.lt_of_lt_of_le hc h.sz),h.ro c hc],fun c hc hr=>by rw [k.kp c (Nat.lt_of_lt_of_le hc h.sz) (by rw [h.ro c hc];exact hr),h.kp c hc hr]⟩
section
variable {ρ ρ':Nat->Nat} {s t:St} {D:oH} {room:Int} {fs fs':List Fl} {l:List bA} {q:FoS} {sure:Nat} {i m:Nat} {e:bA} {n:Bs} {y:S} {xs:List S}
theorem aY.nd (h:aY ρ s D room fs l q sure):(fs.map (·.nm)).Nodup:=h.dk.nm
theorem yM (d:Nat) (h:aY ρ s D room fs l q sure) (hm:tX n) :
 ∃ ρ' fs' t c,R (d+3) 54 [Z (.ptr D.i 0),Z (.str n)] s=some (I .i64 c,t)/\aY ρ' t D room fs' l q sure/\cu fs'=tD n (cu fs)/\Kp ρ ρ' s t:=by
 have r:=h.ro
 cases hh:fS n (cu fs) with
 | false =>
   have e1:=nu d h.dk (iY hh) hm
   refine ⟨ρ,fs,s,9,e1,h,?_,Kp.refl _ _⟩
   unfold tD
   rw [List.filter_eq_self.2 fun v hv=>by simpa using dP.1 hh v hv]
 | true =>
   obtain ⟨k,f,hk,rfl⟩:=jA hh
   obtain ⟨t,e1,k1,z1,o1⟩:=yw d h.dk hk hm
   have hkp:∀ c,c<s.size->ρ c≠0->t.get c=s.get c:=fun c hc hr=>o1 c fun e=>hr (by rw [e];exact r.m)
   exact ⟨_,_,t,0,e1,h.Az k1 (by omega) hkp fun g hg=>⟨fun _=>r.fb g (List.mem_of_mem_eraseIdx hg),fun c hc _=>r.fx g (List.mem_of_mem_eraseIdx hg) c hc⟩,EJ h.nd hk,by omega,fun c hc=>if_pos hc,hkp⟩
theorem vb (d:Nat) (h:aY ρ s D room fs l q sure) (hm:tX n) :
 ∃ ρ' fs' t c,R (d+3) 47 [Z (.ptr D.i 0),Z (.str n)] s=some (I .i64 c,t)/\aY ρ' t D room fs' l q sure/\cu fs'=gE n (cu fs)/\Kp ρ ρ' s t:=by
 have r:=h.ro
 cases hh:fS n (cu fs) with
 | false =>
   have e1:=sn d h.dk (iY hh) hm
   refine ⟨ρ,fs,s,9,e1,h,?_,Kp.refl _ _⟩
   exact (ou (dP.1 hh)).symm
 | true =>
   obtain ⟨k,f,hk,rfl⟩:=jA hh
   have qE:=List.mem_of_getElem? hk
   obtain ⟨t,e1,k1,z1,o1⟩:=uQ d h.dk hk hm
   have hkp:∀ c,c<s.size->ρ c≠0->t.get c=s.get c:=fun c hc hr=>o1 c fun e=>hr (by rw [e];exact r.fb f qE)
   refine ⟨_,_,t,0,e1,h.Az k1 z1 hkp fun g hg => ?_,rI h.nd hk _ rfl,z1,fun c hc=>if_pos hc,hkp⟩
   rcases rB hk hg with rfl | hg
   · exact ⟨fun _=>r.fb f qE,fun c hc _=>r.fx f qE c hc⟩
   · exact ⟨fun _=>r.fb g hg,fun c hc _=>r.fx g hg c hc⟩
theorem Hd (d:Nat) (h:aY ρ s D room fs l q sure) (hm:tX n) {k0:Nat} (hk0:∀ v∈cu fs,v.nm=n->k0<=v.l.length) :
 ∃ ρ' fs' t c,R (d+3) 45 [Z (.ptr D.i 0),Z (.str n),I .i64 (k0:Nat)] s=some (I .i64 c,t)/\aY ρ' t D room fs' l q sure/\cu fs'=Dv n k0 (cu fs)/\Kp ρ ρ' s t:=by
 have r:=h.ro
 cases hh:fS n (cu fs) with
 | false =>
   have e1:=Dx d h.dk (iY hh) hm (k0:Nat)
   refine ⟨ρ,fs,s,9,e1,h,?_,Kp.refl _ _⟩
   exact (ou (dP.1 hh)).symm
 | true =>
   obtain ⟨k,f,hk,rfl⟩:=jA hh
   have qE:=List.mem_of_getElem? hk
   obtain ⟨x',t,e1,k1,z1,o1,n1⟩:=FQ d h.dk hk hm (n:=k0) (hk0 (vw f) (List.mem_map_of_mem qE) rfl)
   have hkp:∀ c,c<s.size->ρ c≠0->t.get c=s.get c:=fun c hc hr=>o1 c fun e=>hr (by rw [e];exact r.fb f qE)
   refine ⟨_,_,t,0,e1,h.Az k1 z1 hkp fun g hg => ?_,rI h.nd hk _ rfl,z1,fun c hc=>if_pos hc,hkp⟩
   rcases rB hk hg with rfl | hg
   · refine ⟨fun _=>r.fb f qE,fun c hc _ => ?_⟩
     rcases n1 with e | e
     · rw [e] at hc;cases hc
     · rw [e] at hc;exact r.fx f qE c hc
   · exact ⟨fun _=>r.fb g hg,fun c hc _=>r.fx g hg c hc⟩
theorem Hk (d:Nat) (h:aY ρ s D room fs l q sure) (hn:tY fs) (hm:tX n) (hno:fS n (cu fs)=false) (hy:xK s y xs) (Mo:∀ c,own y=some c->c<s.size/\ρ c≠0) (hroom:(dx (cu fs):Int)+xs.length<=room) (hlen:xs.length<=40000) :
 ∃ ρ' fs' t,R (d+3) 12 [Z (.ptr D.i 0),Z (.str n),Z y] s=some (I .i64 0,t)/\aY ρ' t D room fs' l q sure/\cu fs'=cu fs++[⟨n,xs,0⟩]/\Kp ρ ρ' s t:=by
 have r:=h.ro
 obtain ⟨x',RO,t,e1,k1,z1,o1,n1,m1⟩:=pS d h.dk hn (iY hno) hm hy (fun c hc=>(Mo c hc).1) (fun e=>(Mo _ e).2 r.m) (by rw [rF];exact hroom) hlen
 have hkp:∀ c,c<s.size->ρ c≠0->t.get c=s.get c:=fun c hc hr=>o1 c hc fun e=>hr (by rw [e];exact r.m)
 refine ⟨_,_,t,e1,h.Az k1 z1 hkp fun g hg => ?_,by simp [cu,vw],z1,fun c hc=>if_pos hc,hkp⟩
 rcases List.mem_append.1 hg with hg | hg
 · exact ⟨fun _=>r.fb g hg,fun c hc _=>r.fx g hg c hc⟩
 · rw [List.mem_singleton] at hg
   subst hg
   exact ⟨fun hlt=>by have:RO<s.size:=hlt;omega,fun c hc hlt=>by have:=m1 c hc;omega⟩
theorem uV (d:Nat) (h:aY ρ s D room fs l q sure) (hn:tY fs) (hm:tX n) (hy:xK s y xs) (Mo:∀ c,own y=some c->c<s.size) (hroom:room<(dx (cu fs):Int)+xs.length) (hlen:xs.length<=40000) :
 ∃ t,R (d+3) 12 [Z (.ptr D.i 0),Z (.str n),Z y] s=some (I .i64 8,t)/\Gr s t:=by
 refine wC d h.dk hn hm hy Mo hlen (by rw [rF];exact hroom) ?_
 cases hh:fS n (cu fs) with
 | false=>exact .inr (iY hh)
 | true=>exact .inl (jA hh)
theorem DS (d:Nat) (h:aY ρ s D room fs l q sure) (hm:tX n) {v:FV} (hv:v∈cu fs) (lh:v.nm=n) {bs:Bs} (hb:v.l=U bs) :
 ∃ y t,R (d+3) 42 [Z (.ptr D.i 0),Z (.str n)] s=some (.eD [.s y,.s (.int .i64 0)],t)/\Gr s t/\RB t y bs/\∀ c,own y=some c->s.size<=c/\c<t.size:=by
 obtain ⟨f,hf,rfl⟩:=List.mem_map.1 hv
 obtain ⟨k,hk⟩:=List.getElem?_of_mem hf
 obtain ⟨y,t,e1,g1,r1,o1⟩:=uP d h.dk hk (by rw [show f.nm=n from lh];exact hm)
 rw [show f.nm=n from lh] at e1
 rw [show f.l=U bs from hb] at r1
 unfold xK at r1
 rw [ng] at r1
 exact ⟨y,t,e1,g1,r1,o1⟩
theorem Fy (d:Nat) (h:aY ρ s D room fs l q sure) (hn:tY fs) (hroom:room<(dx (cu fs):Int)+(aX (bp e)).length) (hm:bT e=true) (hw:rK e) :
 ∃ t,R (d+13) 68 [Z (.ptr D.p 0),AE e] s=some (I .i64 8,t)/\Gr s t:=by
 obtain ⟨s1,hs1⟩:∃ s1,s1=s.push (.cells true (cE e)):=⟨_,rfl⟩
 have cX:aK s (ct (AE e))=some (Z (.ptr s.size 0),s1):=by rw [hs1];rfl
 have g1:Gr s s1:=by rw [hs1];exact Gr.push h.qA _
 have b1:s1.get s.size=some (.cells true (cE e)):=by rw [hs1];exact St.aq _ _
 have l1:=dQ (g:=s1.get) b1
 obtain ⟨y,s2,e2,g2,f2⟩:=oV (d+2) g1.wf e hw
 have xP:eB e=some (aX (bp e)):=by unfold eB;rw [if_pos hm]
 have fb:=f2 _ xP
 have NU:=iE xP
 rw [xP] at e2
 have h2:=(h.gr g1).gr g2
 have q0:ab (Z (.ptr D.p 0)) s2.get=some (Z (.ptr D.i 0)):=ai h2.st rfl
 have Ct:(U (aX (bp e))).length=(aX (bp e)).length:=by simp [U]
 have hy:xK s2 y (U (aX (bp e))):=by
  have:=fb.rd
  rw [← Ct] at this
  exact this
 obtain ⟨t,e3,g3⟩:=uV (d+9) h2 hn ib hy (fun c hc=>(fb.new c hc).2) (by rw [Ct];exact hroom) (by omega)
 refine ⟨t,?_,(g1.trans g2).trans g3⟩
 rw [Cm]
 unfold f68
 simp only [Nat.add_assoc,Nat.reduceAdd] at e2 e3
 rw [show dE=[108,111,103] from rfl] at e3
 generalize R (d+12)=rr at *
 simp [cX,l1,e2,ah,q0,e3]
end
def Nz (k:Nat):Bs:=if k<10 then [UInt8.ofNat (48+k)] else if k<100 then [UInt8.ofNat (48+k / 10),UInt8.ofNat (48+k%10)] else [UInt8.ofNat (48+k / 100),UInt8.ofNat (48+k / 10%10),UInt8.ofNat (48+k%10)]
def bo (k:Nat):Bs:=115::Nz k
def isStr (n:Bs) (x:Option (T×St)):Bool:=match x with
 | some (.v (.s (.str m)),_)=>m == n
 | _=>false
def isInt (n:Int) (x:Option (T×St)):Bool:=match x with
 | some (.v (.s (.int .i64 m)),_)=>decide (m=n)
 | _=>false
theorem HM {n:Bs} {x:Option (T×St)} (h:isStr n x=true):Option.map Prod.fst x=some (Z (.str n)):=by
 unfold isStr at h
 split at h
 · have:=eq_of_beq h
   subst this
   rfl
 · cases h
theorem HK {n:Int} {x:Option (T×St)} (h:isInt n x=true):Option.map Prod.fst x=some (I .i64 n):=by
 unfold isInt at h
 split at h
 · have:=of_decide_eq_true h
   subst this
   rfl
 · cases h
theorem Cp {b:Bool} {x:Option (T×St)} (h:yE b x=true):Option.map Prod.fst x=some (B b):=by
 obtain ⟨τ,rfl⟩:=uS h
 rfl
noncomputable def jY (k:Nat):Bool:=isStr (bo k) (eO Tryz.prog 64 oa 16 69 [I .i64 (k:Nat)] St.empty)&&(yE true (eO Tryz.prog 64 oa 16 90 [Z (.str (bo k))] St.empty)&&isInt (k:Nat) (eO Tryz.prog 64 oa 16 52 [Z (.str (bo k))] St.empty))
set_option maxRecDepth 100000 in
theorem MK:((List.range 16).all fun k=>jY (0+k+1))=true:=by kernel_rfl
set_option maxRecDepth 100000 in
theorem ML:((List.range 16).all fun k=>jY (16+k+1))=true:=by kernel_rfl
set_option maxRecDepth 100000 in
theorem MN:((List.range 16).all fun k=>jY (32+k+1))=true:=by kernel_rfl
set_option maxRecDepth 100000 in
theorem MO:((List.range 16).all fun k=>jY (48+k+1))=true:=by kernel_rfl
section
variable {s:St} {k:Nat}
theorem w9 (h0:1<=k) (h1:k<=64):jY k=true:=by
 have key:∀ i,i<4->((List.range 16).all fun k=>jY (16*i+k+1))=true:=fun i hi=>by
  rcases (by omega:i=0\/i=1\/i=2\/i=3) with rfl | rfl | rfl | rfl
  · exact MK
  · exact ML
  · exact MN
  · exact MO
 have:=List.all_eq_true.1 (key ((k-1) / 16) (by omega)) ((k-1)%16) (List.mem_range.2 (by omega))
 rwa [show 16*((k-1) / 16)+(k-1)%16+1=k by omega] at this
theorem zb (d:Nat) (h0:1<=k) (h1:k<=64):R (d+1) 69 [I .i64 (k:Nat)] s=some (Z (.str (bo k)),s):=by
 have h:=w9 h0 h1
 unfold jY at h
 rw [Bool.and_eq_true] at h
 exact nZ d s (by decide) (iw rfl (HM h.1) rfl)
theorem sZ (h0:1<=k) (h1:k<=64):tX (bo k):=fun d s=>by
 have h:=w9 h0 h1
 unfold jY at h
 rw [Bool.and_eq_true,Bool.and_eq_true] at h
 exact zc d s (iw rfl (Cp h.2.1) rfl)
theorem Mr (d:Nat) (h0:1<=k) (h1:k<=64):R (d+1) 52 [Z (.str (bo k))] s=some (I .i64 (k:Nat),s):=by
 have h:=w9 h0 h1
 unfold jY at h
 rw [Bool.and_eq_true,Bool.and_eq_true] at h
 exact nZ d s (by decide) (iw rfl (HK h.2.2) rfl)
end
def Dz:Bool:=(List.range 64).all fun i=>(List.range 64).all fun j=>(bo (i+1) == bo (j+1)) == Nat.beq i j
set_option maxRecDepth 100000 in
theorem wG:Dz=true:=by kernel_rfl
theorem lY {i j:Nat} (hi:1<=i/\i<=64) (hj:1<=j/\j<=64) (h:bo i=bo j):i=j:=by
 have h1:=List.all_eq_true.1 wG (i-1) (List.mem_range.2 (by omega))
 have h2:=List.all_eq_true.1 h1 (j-1) (List.mem_range.2 (by omega))
 rw [show i-1+1=i by omega,show j-1+1=j by omega,h,beq_self_eq_true] at h2
 have h3:Nat.beq (i-1) (j-1)=true:=by simpa using h2
 have:=Nat.eq_of_beq_eq_true h3
 omega
theorem jD {k:Nat}:(bo k).length<=4:=by
 unfold bo Nz
 split
 · simp
 · split<;>simp
structure eQ where
 t:Int
 v:Int
 deriving DecidableEq
def cS (x:eQ):List S:=[.int .i64 x.t,.int .i64 x.v]
abbrev AS (x:eQ):T := .v (.agg (cS x))
theorem oO (x:eQ):(cS x).length=2:=rfl
def I6 (n:Int):Prop := -9223372036854775808<=n/\n<9223372036854775808
abbrev W6 (n:Int):Int:=IntKind.i64.wrap n
theorem C6 {n:Int} (h:I6 n):W6 n=n:=aB _ h.1 h.2
theorem iL (n:Int):I6 (W6 n):=by
 unfold I6 W6 IntKind.wrap
 simp [IntKind.signed,IntKind.bits]
 omega
theorem Qx (n:Int):∃ k:Int,W6 n=n+18446744073709551616*k:=by
 unfold W6 IntKind.wrap
 simp [IntKind.signed,IntKind.bits]
 refine ⟨-((n+9223372036854775808) / 18446744073709551616),?_⟩
 omega
theorem N9 {a b k:Int} (h:a=b+18446744073709551616*k):W6 a=W6 b:=by
 unfold W6 IntKind.wrap
 simp [IntKind.signed,IntKind.bits]
 omega
theorem B6 (a b:Int):W6 (a+W6 b)=W6 (a+b):=by
 obtain ⟨k,hk⟩:=Qx b
 exact N9 (k:=k) (by rw [hk];omega)
def dB (n:Int):Nat:=if n<0 then (2*(-n)-1).toNat else (2*n).toNat
def kL (n:Nat):Int:=if n%2=1 then -((n / 2:Nat):Int)-1 else ((n / 2:Nat):Int)
theorem C7 (n:Int):kL (dB n)=n:=by
 unfold kL dB
 by_cases h:n<0
 · rw [if_pos h,if_pos (by omega)];omega
 · rw [if_neg h,if_neg (by omega)];omega
theorem ke {n:Int} (h:I6 n):dB n<2 ^ 64:=by
 obtain ⟨h1,h2⟩:=h
 unfold dB
 split<;>omega
theorem QA {n:Nat} (h:n<2 ^ 64):I6 (kL n):=by
 unfold I6 kL
 split<;>omega
def cC:Int->List eQ->Bool
 | _,[]=>true
 | last,a::r=>decide (last<a.t)&&decide (a.t<=1099511627776)&&cC a.t r
theorem iI:∀ {l:List eQ} {last:Int},cC last l=true->∀ x∈l,last<x.t/\x.t<=1099511627776
 | [],_,_,x,hx=>by cases hx
 | a::r,last,h,x,hx=>by
   simp only [cC,Bool.and_eq_true,decide_eq_true_eq] at h
   rcases List.mem_cons.1 hx with rfl | hx
   · exact ⟨h.1.1,h.1.2⟩
   · have:=iI h.2 x hx
     exact ⟨by omega,this.2⟩
def fK:Int->eQ->List eQ->Bs
 | _,_,[]=>[]
 | step,was,a::r=>(aP (dB (W6 (W6 (a.t-was.t)-step)))++aP (dB (W6 (a.v-was.v))))++fK (W6 (a.t-was.t)) a r
def iD (a:eQ):Bs:=aP a.t.toNat++aP (dB a.v)
def bh:List eQ->Bs
 | []=>aP 0
 | a::r=>aP (r.length+1)++(iD a++fK 0 a r)
structure Rr where
 at_:Nat
 bad:Bool
 deriving DecidableEq
def nx (bs:Bs) (r:Rr):Nat×Rr:=match jF bs r.at_ with
 | some (n,to)=>(n,⟨to,r.bad⟩)
 | none=>(0,⟨r.at_,true⟩)
def fq (bs:Bs):Nat->List eQ->Int->Rr->List eQ×Rr
 | 0,acc,_,r=>(acc,r)
 | m+1,acc,step,r=>if r.bad=true then (acc,r) else
   match acc.getLast? with
   | none=>fq bs m [⟨W6 (nx bs r).1,kL (nx bs (nx bs r).2).1⟩] step (nx bs (nx bs r).2).2
   | some was=>fq bs m (acc++[⟨W6 (was.t+W6 (step+kL (nx bs r).1)),W6 (was.v+kL (nx bs (nx bs r).2).1)⟩]) (W6 (step+kL (nx bs r).1)) (nx bs (nx bs r).2).2
def fg (bs:Bs) (most:Nat) (r:Rr):Nat×Rr:=if most<(nx bs r).1 then (0,⟨(nx bs r).2.at_,true⟩) else nx bs r
def zg (l:List eQ):Bool:=cC (-1) l&&Nat.ble l.length 64
def ug (bs:Bs):Option (List eQ) :=
 if ((fq bs (fg bs 64 ⟨0,false⟩).1 [] 0 (fg bs 64 ⟨0,false⟩).2).2.bad || !zg (fq bs (fg bs 64 ⟨0,false⟩).1 [] 0 (fg bs 64 ⟨0,false⟩).2).1)=true then none
 else if bh (fq bs (fg bs 64 ⟨0,false⟩).1 [] 0 (fg bs 64 ⟨0,false⟩).2).1=bs then some (fq bs (fg bs 64 ⟨0,false⟩).1 [] 0 (fg bs 64 ⟨0,false⟩).2).1 else none
theorem vv {bs pre post:Bs} {n:Nat} {bad:Bool} (hb:bs=pre++(aP n++post)) (hn:n<2 ^ 64):nx bs ⟨pre.length,bad⟩=(n,⟨(pre++aP n).length,bad⟩):=by
 unfold nx
 rw [mo hb rfl hn,List.length_append]
theorem uO:∀ (l:List eQ) {bs pre post:Bs} {acc:List eQ} {step:Int} {was:eQ},bs=pre++(fK step was l++post)->acc.getLast? = some was->I6 step->I6 was.t->I6 was.v->(∀ x∈l,I6 x.t/\I6 x.v) →
 fq bs l.length acc step ⟨pre.length,false⟩=(acc++l,⟨(pre++fK step was l).length,false⟩)
 | [],bs,pre,post,acc,step,was,hb,ha,_,_,_,_=>by simp [fq,fK]
 | a::r,bs,pre,post,acc,step,was,hb,ha,hs,ht,hv,hl=>by
   obtain ⟨xL,Ny⟩:=hl a List.mem_cons_self
   have e1:nx bs ⟨pre.length,false⟩=(dB (W6 (W6 (a.t-was.t)-step)),⟨(pre++aP (dB (W6 (W6 (a.t-was.t)-step)))).length,false⟩) :=
    vv (post:=aP (dB (W6 (a.v-was.v)))++fK (W6 (a.t-was.t)) a r++post) (by rw [hb];simp [fK,List.append_assoc]) (ke (iL _))
   have e2:nx bs ⟨(pre++aP (dB (W6 (W6 (a.t-was.t)-step)))).length,false⟩=(dB (W6 (a.v-was.v)),⟨(pre++aP (dB (W6 (W6 (a.t-was.t)-step)))++aP (dB (W6 (a.v-was.v)))).length,false⟩) :=
    vv (post:=fK (W6 (a.t-was.t)) a r++post) (by rw [hb];simp [fK,List.append_assoc]) (ke (iL _))
   have h1:W6 (step+W6 (W6 (a.t-was.t)-step))=W6 (a.t-was.t):=by
    rw [B6,show step+(W6 (a.t-was.t)-step)=W6 (a.t-was.t) by omega]
    exact C6 (iL _)
   have h2:W6 (was.t+W6 (a.t-was.t))=a.t:=by rw [B6,show was.t+(a.t-was.t)=a.t by omega,C6 xL]
   have h3:W6 (was.v+W6 (a.v-was.v))=a.v:=by rw [B6,show was.v+(a.v-was.v)=a.v by omega,C6 Ny]
   have ih:=uO r (bs:=bs) (pre:=pre++aP (dB (W6 (W6 (a.t-was.t)-step)))++aP (dB (W6 (a.v-was.v)))) (post:=post) (acc:=acc++[a]) (step:=W6 (a.t-was.t)) (was:=a) (by rw [hb];simp [fK,List.append_assoc]) (by simp) (iL _) xL Ny (fun x hx=>hl x (List.mem_cons_of_mem _ hx))
   have Ty:fq bs (r.length+1) acc step ⟨pre.length,false⟩=fq bs r.length (acc++[a]) (W6 (a.t-was.t)) ⟨(pre++aP (dB (W6 (W6 (a.t-was.t)-step)))++aP (dB (W6 (a.v-was.v)))).length,false⟩:=by
    rw [fq]
    simp only [ha,e1,e2,C7,h1,h2,h3]
    rfl
   rw [List.length_cons,Ty,ih]
   simp [fK,List.append_assoc]
theorem AQ {l:List eQ} (h:zg l=true) (hv:∀ x∈l,I6 x.v):ug (bh l)=some l:=by
 have h':=h
 unfold zg at h'
 rw [Bool.and_eq_true] at h'
 have hlen:=Nat.le_of_ble_eq_true h'.2
 have ht:∀ x∈l,I6 x.t/\0<=x.t:=fun x hx=>by
  have:=iI h'.1 x hx
  unfold I6
  omega
 have key:∃ at_,fg (bh l) 64 ⟨0,false⟩=(l.length,⟨at_,false⟩)/\∃ X0,fq (bh l) l.length [] 0 ⟨at_,false⟩=(l,⟨X0,false⟩):=by
  cases l with
  | nil =>
    have e1:nx (bh []) ⟨([]:Bs).length,false⟩=(0,_):=vv (post:=[]) (by simp [bh]) (by decide)
    refine ⟨([]++aP 0).length,?_,_,rfl⟩
    have TZ:nx (bh []) ⟨0,false⟩=(0,⟨([]++aP 0).length,false⟩):=e1
    unfold fg
    rw [TZ,if_neg (by simp)]
    rfl
  | cons a r =>
    rw [List.length_cons] at hlen
    have e1:nx (bh (a::r)) ⟨([]:Bs).length,false⟩=(r.length+1,⟨([]++aP (r.length+1)).length,false⟩):=vv (post:=iD a++fK 0 a r) (by simp [bh]) (by omega)
    have TZ:nx (bh (a::r)) ⟨0,false⟩=(r.length+1,⟨([]++aP (r.length+1)).length,false⟩):=e1
    obtain ⟨a1,a2⟩:=ht a List.mem_cons_self
    have a3:=hv a List.mem_cons_self
    have e2:nx (bh (a::r)) ⟨([]++aP (r.length+1)).length,false⟩=(a.t.toNat,⟨([]++aP (r.length+1)++aP a.t.toNat).length,false⟩):=vv (post:=aP (dB a.v)++fK 0 a r) (by simp [bh,iD,List.append_assoc]) (by unfold I6 at a1;omega)
    have e3:nx (bh (a::r)) ⟨([]++aP (r.length+1)++aP a.t.toNat).length,false⟩=(dB a.v,⟨([]++aP (r.length+1)++aP a.t.toNat++aP (dB a.v)).length,false⟩):=vv (post:=fK 0 a r) (by simp [bh,iD,List.append_assoc]) (ke a3)
    refine ⟨([]++aP (r.length+1)).length,?_,?_⟩
    · unfold fg
      rw [TZ,if_neg (by simp;omega)]
      rfl
    · have h4:W6 (a.t.toNat:Int)=a.t:=by rw [show (a.t.toNat:Int)=a.t by omega,C6 a1]
      have h5:=uO r (bs:=bh (a::r)) (pre:=[]++aP (r.length+1)++aP a.t.toNat++aP (dB a.v)) (post:=[]) (acc:=[a]) (step:=0) (was:=a) (by simp [bh,iD,List.append_assoc]) rfl (by unfold I6;omega) a1 a3 (fun x hx=>⟨(ht x (List.mem_cons_of_mem _ hx)).1,hv x (List.mem_cons_of_mem _ hx)⟩)
      refine ⟨([]++aP (r.length+1)++aP a.t.toNat++aP (dB a.v)++fK 0 a r).length,?_⟩
      rw [List.length_cons,fq]
      simp only [List.getLast?_nil,e2,e3,C7,h4]
      exact h5
 obtain ⟨at_,h1,X0,h2⟩:=key
 unfold ug
 rw [h1]
 simp only [h2,h]
 simp
theorem CN {n:Int} (h:I6 n):jO .xor (I .i64 n)=some (I .i64 (-n-1)):=by
 obtain ⟨h1,h2⟩:=h
 have e:(BitVec.ofInt 64 (-1) ^^^ BitVec.ofInt 64 n) = ~~~ BitVec.ofInt 64 n:=by
  rw [show BitVec.ofInt 64 (-1)=BitVec.allOnes 64 by decide,BitVec.allOnes_xor]
 show some (I .i64 (IntKind.i64.wrap ((BitVec.ofInt 64 (-1) ^^^ BitVec.ofInt 64 n).toNat:Nat)))=_
 rw [e,BitVec.toNat_not,BitVec.toNat_ofInt]
 congr 2
 unfold IntKind.wrap
 simp [IntKind.signed,IntKind.bits]
 omega
section
variable {s t u:St} {x y:S} {l:List eQ} {bs:Bs}
theorem xI (d:Nat) {n:Int} (h:I6 n):R (d+1) 196 [I .i64 n] s=some (I .u64 (dB n:Nat),s):=by
 rw [GO]
 unfold f196
 have h':=h
 obtain ⟨h1,h2⟩:=h'
 by_cases hn:n<0
 · obtain ⟨m,hm⟩:∃ m:Nat,(m:Int) = -n-1:=⟨(-n-1).toNat,by omega⟩
   have e1:=CN h
   rw [← hm] at e1
   have e2:aF .u64 (I .i64 (m:Int))=some (I .u64 (m:Int)):=by rw [aV,wrap64 _ (by omega)]
   have e3:af .shl (I .u64 (m:Int)) (I .u64 1)=some (I .u64 ((m*2 ^ 1:Nat):Int)):=xA m 1 (by omega) (by decide)
   have e4:af .or (I .u64 ((m*2 ^ 1:Nat):Int)) (I .u64 1)=some (I .u64 ((m*2 ^ 1 ||| 1:Nat):Int)):=Iw (m*2 ^ 1) 1 (by omega) (by decide)
   have e5:m*2 ^ 1 ||| 1=dB n:=by
    have h3:m*2 ^ 1 ||| 1=m*2 ^ 1+1:=by
     have:=Nat.two_pow_add_eq_or_of_lt (i:=1) (b:=1) (by decide) m
     rw [Nat.mul_comm m]
     exact this.symm
    rw [h3]
    unfold dB
    rw [if_pos hn]
    omega
   rw [e5] at e4
   generalize dB n=z at *
   generalize ((m*2 ^ 1:Nat):Int)=m2 at *
   generalize (m:Int)=mm at *
   simp [hn,e1,e2,e3,e4]
 · obtain ⟨m,hm⟩:∃ m:Nat,(m:Int)=n:=⟨n.toNat,by omega⟩
   subst hm
   have e2:aF .u64 (I .i64 (m:Int))=some (I .u64 (m:Int)):=by rw [aV,wrap64 _ (by omega)]
   have e3:af .shl (I .u64 (m:Int)) (I .u64 1)=some (I .u64 ((m*2 ^ 1:Nat):Int)):=xA m 1 (by omega) (by decide)
   have e5:m*2 ^ 1=dB m:=by
    unfold dB
    rw [if_neg hn]
    omega
   rw [e5] at e3
   have na:¬ (m:Int)<0:=hn
   generalize dB m=z at *
   generalize (m:Int)=mm at *
   simp [na,e2,e3]
theorem xH (d:Nat) {n:Nat} (h:n<2 ^ 64):R (d+1) 154 [I .u64 (n:Nat)] s=some (I .i64 (kL n),s):=by
 rw [Gt]
 unfold f154
 have e1:af .and (I .u64 (n:Nat)) (I .u64 1)=some (I .u64 ((n &&& 1:Nat))):=JW n 1 h (by decide)
 rw [Nat.and_one_is_mod] at e1
 have e2:af .shr (I .u64 (n:Nat)) (I .u64 1)=some (I .u64 ((n / 2 ^ 1:Nat))):=eS .u64 n 1 (by decide)
 have e3:aF .i64 (I .u64 ((n / 2 ^ 1:Nat):Int))=some (I .i64 ((n / 2 ^ 1:Nat):Int)):=by rw [aV,qC _ (by omega)]
 have e4:=CN (n:=((n / 2 ^ 1:Nat):Int)) ⟨by omega,by omega⟩
 by_cases hm:n%2=1
 · have hz:kL n = -((n / 2 ^ 1:Nat):Int)-1:=by unfold kL;rw [if_pos hm]
   rw [hz]
   have c1:((n%2:Nat):Int)=1:=by omega
   generalize ((n / 2 ^ 1:Nat):Int)=a at *
   generalize ((n%2:Nat):Int)=b at *
   generalize ((n:Nat):Int)=c at *
   simp [e1,c1,e2,e3,e4]
 · have hz:kL n=((n / 2 ^ 1:Nat):Int):=by unfold kL;rw [if_neg hm]
   rw [hz]
   have c1:¬ ((n%2:Nat):Int)=1:=by omega
   generalize ((n / 2 ^ 1:Nat):Int)=a at *
   generalize ((n%2:Nat):Int)=b at *
   generalize ((n:Nat):Int)=c at *
   simp [e1,c1,e2,e3]
abbrev oG (s:St) (x:S) (l:List eQ):Prop:=Rd 2 s x l.length (cells cS l)
theorem Qu {i:Nat} {vs:List S} {e:eQ} (h:s.get i=some (.cells true vs)) (hv:vs.length=2):aw 2 (Z (.ptr i 0)) (AS e) s=some (tt,s.set i (.cells true (cS e))):=by
 have hb:(V.agg (cS e)).cells.length=2/\0+2<=vs.length:=⟨rfl,by omega⟩
 simp only [aw,h,if_pos hb]
 rw [show (V.agg (cS e)).cells=cS e from rfl,ez (by rw [hv];rfl)]
theorem oG.Dm (h:oG s x l) {j:Nat} {n:Int} {e:eQ} (hn:n=j) (he:l[j]? = some e):∃ c p,av 2 (Z x) (I .i64 n)=some (Z (.ptr c p))/\aG 2 (Z (.ptr c p)) s.get=some (AS e)/\ab (Z (.ptr c p)) s.get=some (I .i64 e.t)/\ab (Z (.ptr c (p+1))) s.get=some (I .i64 e.v):=by
 obtain ⟨c,p,h1,h2,h3⟩:=Rd.at h hn (List.getElem?_eq_some_iff.1 he).1
 rw [jy oO he] at h3
 exact ⟨c,p,h1,h3,h2 0 _ (by omega) (by rw [lM oO he (by omega)];rfl),h2 1 _ (by omega) (by rw [lM oO he (by omega)];rfl)⟩
theorem Oo (wf:s.wf) (e:eQ):∃ s1 s2,aK s (ba [.int .i64 0,.int .i64 0])=some (Z (.ptr s.size 0),s1)/\aw 2 (Z (.ptr s.size 0)) (AS e) s1=some (tt,s2)/\Gr s s2/\s2.get s.size=some (.cells true (cS e))/\s2.size=s.size+1 ∧
 ab (Z (.ptr s.size 0)) s2.get=some (I .i64 e.t)/\ab (Z (.ptr s.size 1)) s2.get=some (I .i64 e.v):=by
 have b0:(s.push (.cells true [.int .i64 0,.int .i64 0])).get s.size=some (.cells true [.int .i64 0,.int .i64 0]):=St.aq _ _
 have b1:((s.push (.cells true [.int .i64 0,.int .i64 0])).set s.size (.cells true (cS e))).get s.size=some (.cells true (cS e)):=St.ar _ _ _
 exact ⟨s.push (.cells true [.int .i64 0,.int .i64 0]),_,rfl,Qu b0 rfl,⟨St.wf_set (St.bn wf _) (by simp) _,by simp,fun c hc=>by rw [St.aj _ _ (by omega),St.aI _ _ (by omega)]⟩,b1,by simp,ai b1 rfl,ai b1 rfl⟩
theorem m5 (d:Nat) (wf:s.wf) (h:oG s x l) (eH:∀ c,own x=some c->c<s.size) (hl:l.length<=8000):∃ t,R (d+1) 195 [Z x] s=some (B (cC (-1) l),t)/\Gr s t:=by
 have ll:=h.lens
 obtain ⟨j,τ,lp,hj,g⟩:=aW (f:=lT (R d) 8192)
  (fun q v u=>∃ (k:Nat) (last:Int),q+k=l.length/\v=[I .i64 last,Z x,I .i64 l.length,I .i64 (k:Nat)]/\Gr s u/\cC last (l.drop k)=cC (-1) l)
  (fun j u=>((j = .exit 0 []/\cC (-1) l=true)\/(j = .ret (B false)/\cC (-1) l=false))/\Gr s u) (by
  rintro q v u ⟨k,last,hq,rfl,g,hr⟩
  by_cases hk:k<l.length
  · obtain ⟨a,ha⟩:∃ a,a=l[k]:=⟨_,rfl⟩
    have Cv:l[k]? = some a:=by rw [List.getElem?_eq_getElem hk,ha]
    have mE:l.drop k=a::l.drop (k+1):=by rw [List.drop_eq_getElem_cons hk,ha]
    rw [mE] at hr
    obtain ⟨c,p,ix,ld,_,_⟩:=oG.Dm (h.gr eH g) (n:=((k:Nat):Int)) rfl Cv
    obtain ⟨u1,u2,e1,e2,g2,b2,z2,l0,l1⟩:=Oo g.wf a
    have c0:((k:Nat):Int)<((l.length:Nat):Int):=by omega
    have w1:IntKind.i64.wrap ((k:Int)+1)=((k+1:Nat):Int):=by rw [aB _ (by omega) (by omega)];omega
    by_cases h1:last<a.t
    · by_cases h2:a.t<=1099511627776
      · left
        refine ⟨[I .i64 a.t,Z x,I .i64 l.length,I .i64 ((k+1:Nat):Int)],u2,q-1,?_,by omega,k+1,a.t,by omega,rfl,g.trans g2,?_⟩
        · unfold lT
          have c1:¬ a.t<=last:=by omega
          have c2:¬ 1099511627776<a.t:=by omega
          generalize ((k+1:Nat):Int)=K1 at *
          generalize ((k:Nat):Int)=K0 at *
          generalize ((l.length:Nat):Int)=LL at *
          simp [c0,ix,ld,e1,e2,l0,c1,c2,w1]
        · rw [← hr]
          simp [cC,h1,h2]
      · right
        refine ⟨.ret (B false),u2,?_,(fun v h=>by cases h),.inr ⟨rfl,by rw [← hr];simp [cC,h2]⟩,g.trans g2⟩
        unfold lT
        have c1:¬ a.t<=last:=by omega
        have c2:1099511627776<a.t:=by omega
        generalize ((k:Nat):Int)=K0 at *
        generalize ((l.length:Nat):Int)=LL at *
        simp [c0,ix,ld,e1,e2,l0,c1,c2]
    · right
      refine ⟨.ret (B false),u2,?_,(fun v h=>by cases h),.inr ⟨rfl,by rw [← hr];simp [cC,h1]⟩,g.trans g2⟩
      unfold lT
      have c1:a.t<=last:=by omega
      generalize ((k:Nat):Int)=K0 at *
      generalize ((l.length:Nat):Int)=LL at *
      simp [c0,ix,ld,e1,e2,l0,c1]
  · right
    have hkk:k=l.length:=by omega
    subst hkk
    rw [List.drop_length] at hr
    refine ⟨.exit 0 [],u,?_,(fun v h=>by cases h),.inl ⟨rfl,hr.symm⟩,g⟩
    unfold lT
    simp)
  8192 l.length _ s ⟨0,-1,by omega,rfl,Gr.refl wf,by simp⟩ (by omega)
 refine ⟨τ,?_,g⟩
 rw [GN]
 unfold f195
 have e0:((0:Nat):Int)=0:=rfl
 rw [e0] at lp
 rcases hj with ⟨rfl,hr⟩ | ⟨rfl,hr⟩
 · rw [hr];simp [ll,lp]
 · rw [hr];simp [ll,lp]
def cR (x:S) (r:Rr):List S:=[x,.int .i64 (r.at_:Nat),.bool r.bad]
theorem G6 {bs:Bs} {at_:Nat}:∀ (f k n:Nat) {v to:Nat},f+k=10->n<2 ^ 64->nJ bs at_ f k n=some (v,to)->v<2 ^ 64:=by
 intro f
 induction f with
 | zero=>intro k n v to _ _ h;cases h
 | succ f ih =>
   intro k n v to hk hn h
   unfold nJ at h
   split at h
   · cases h
   · rename_i c hc
     split at h
     · cases h
     · rename_i h9
       have Hn:c.toNat%128*2 ^ (7*k)<2 ^ 64:=by
        by_cases Ul:k=9
        · subst Ul
          have:c.toNat<=1:=by
           apply Nat.le_of_not_lt
           intro h
           exact h9 ⟨rfl,h⟩
          have h2:c.toNat%128<=1:=Nat.le_trans (Nat.mod_le _ _) this
          calc c.toNat%128*2 ^ (7*9)<=1*2 ^ (7*9):=Nat.mul_le_mul_right _ h2
           _<2 ^ 64:=by decide
        · have h2:c.toNat%128<128:=Nat.mod_lt _ (by decide)
          calc c.toNat%128*2 ^ (7*k)<=127*2 ^ (7*k):=Nat.mul_le_mul_right _ (by omega)
           _<=127*2 ^ (7*8):=Nat.mul_le_mul_left _ (Nat.pow_le_pow_right (by omega) (by omega))
           _<2 ^ 64:=by decide
       have na:(n ||| c.toNat%128*2 ^ (7*k))<2 ^ 64:=Nat.or_lt_two_pow hn Hn
       split at h
       · exact ih _ _ (by omega) na h
       · split at h
         · cases h
         · cases h
           exact na
theorem zP {bs:Bs} {n:Nat} {v to:Nat} (h:jF bs n=some (v,to)):v<2 ^ 64:=by
 unfold jF at h
 split at h
 · exact G6 10 0 0 (by omega) (by decide) h
 · cases h
set_option maxHeartbeats 1000000 in
theorem xd (d:Nat) {p:Nat} {r:Rr} (wf:s.wf) (hp:s.get p=some (.cells true (cR x r))) (h:RB s x bs) (hl:bs.length<=100000) (ha:r.at_<=bs.length) :
 ∃ t,R (d+2) 153 [Z (.ptr p 0)] s=some (I .u64 ((nx bs r).1:Nat),t)/\t.get p=some (.cells true (cR x (nx bs r).2))/\t.size=s.size/\t.wf/\(nx bs r).2.at_<=bs.length/\(nx bs r).1<2 ^ 64/\∀ c,c≠p->t.get c=s.get c:=by
 have e1:=oz d h hl (at_:=r.at_) (by omega)
 have q0:ab (Z (.ptr p 0)) s.get=some (Z x):=ai hp rfl
 have q1:ab (Z (.ptr p 1)) s.get=some (I .i64 (r.at_:Nat)):=ai hp rfl
 have hpl:=wf.lt hp
 rw [Gs]
 unfold f153
 cases hv:jF bs r.at_ with
 | some o =>
   obtain ⟨v,to⟩:=o
   have hx:nx bs r=(v,⟨to,r.bad⟩):=by unfold nx;rw [hv]
   have hlt:=rH hv
   have Z3:=zP hv
   rw [hv] at e1
   simp only [tP] at e1
   rw [hx]
   obtain ⟨t,ht⟩:∃ t,t=s.set p (.cells true (cR x ⟨to,r.bad⟩)):=⟨_,rfl⟩
   have st:aw 1 (Z (.ptr p 1)) (I .i64 (to:Nat)) s=some (tt,t):=by rw [ht];exact aT hp (by simp [cR])
   refine ⟨t,?_,by rw [ht];exact St.ar _ _ _,by rw [ht];simp,by rw [ht];exact St.wf_set wf hpl _,hlt.2,Z3,fun c hc=>by rw [ht];exact St.aj _ _ hc⟩
   generalize R (d+1)=rr at *
   generalize ((v:Nat):Int)=V at *
   generalize ((to:Nat):Int)=TO at *
   generalize ((r.at_:Nat):Int)=A at *
   simp [q0,q1,e1,ah,st]
 | none =>
   have hx:nx bs r=(0,⟨r.at_,true⟩):=by unfold nx;rw [hv]
   rw [hv] at e1
   simp only [tP,if_pos ha] at e1
   rw [hx]
   obtain ⟨t1,ht1⟩:∃ t1,t1=s.set p (.cells true (cR x ⟨r.at_,true⟩)):=⟨_,rfl⟩
   have xB:aw 1 (Z (.ptr p 2)) (B true) s=some (tt,t1):=by rw [ht1];exact aT hp (by simp [cR])
   have b1:t1.get p=some (.cells true (cR x ⟨r.at_,true⟩)):=by rw [ht1];exact St.ar _ _ _
   obtain ⟨t,ht⟩:∃ t,t=t1.set p (.cells true (cR x ⟨r.at_,true⟩)):=⟨_,rfl⟩
   have st:aw 1 (Z (.ptr p 1)) (I .i64 (r.at_:Nat)) t1=some (tt,t):=by rw [ht];exact aT b1 (by simp [cR])
   refine ⟨t,?_,by rw [ht];exact St.ar _ _ _,by rw [ht,ht1];simp,by rw [ht,ht1];exact St.wf_set (St.wf_set wf hpl _) (by simpa using hpl) _,ha,(show (0:Nat)<2 ^ 64 by decide),fun c hc=>by rw [ht,ht1,St.aj _ _ hc,St.aj _ _ hc]⟩
   generalize R (d+1)=rr at *
   generalize ((r.at_:Nat):Int)=A at *
   simp [q0,q1,e1,ah,xB,st]
theorem J6 (d:Nat) {p:Nat} {r:Rr} (wf:s.wf) (hp:s.get p=some (.cells true (cR x r))) (h:RB s x bs) (hl:bs.length<=100000) (ha:r.at_<=bs.length) {most:Nat} (hm:most<2 ^ 62) :
 ∃ t,R (d+3) 152 [Z (.ptr p 0),I .i64 (most:Nat)] s=some (I .i64 ((fg bs most r).1:Nat),t)/\t.get p=some (.cells true (cR x (fg bs most r).2))/\t.size=s.size/\t.wf/\(fg bs most r).2.at_<=bs.length/\(fg bs most r).1<=most/\∀ c,c≠p->t.get c=s.get c:=by
 obtain ⟨t,e1,b1,z1,w1,a1,l1,k1⟩:=xd d wf hp h hl ha
 rw [Gq]
 unfold f152
 have c1:aF .u64 (I .i64 (most:Nat))=some (I .u64 (most:Nat)):=by rw [aV,wrap64 _ (by omega)]
 by_cases hn:most<(nx bs r).1
 · have hx:fg bs most r=(0,⟨(nx bs r).2.at_,true⟩):=by unfold fg;rw [if_pos hn]
   rw [hx]
   obtain ⟨t2,ht2⟩:∃ t2,t2=t.set p (.cells true (cR x ⟨(nx bs r).2.at_,true⟩)):=⟨_,rfl⟩
   have st:aw 1 (Z (.ptr p 2)) (B true) t=some (tt,t2):=by rw [ht2];exact aT b1 (by simp [cR])
   refine ⟨t2,?_,by rw [ht2];exact St.ar _ _ _,by rw [ht2];simpa using z1,by rw [ht2];exact St.wf_set w1 (w1.lt b1) _,a1,Nat.zero_le _,fun c hc=>by rw [ht2,St.aj _ _ hc];exact k1 c hc⟩
   have c2:((most:Nat):Int)<(((nx bs r).1:Nat):Int):=by omega
   generalize R (d+2)=rr at *
   generalize (((nx bs r).1:Nat):Int)=V at *
   generalize ((most:Nat):Int)=M at *
   simp [e1,c1,c2,st]
 · have hx:fg bs most r=nx bs r:=by unfold fg;rw [if_neg hn]
   rw [hx]
   refine ⟨t,?_,b1,z1,w1,a1,by omega,k1⟩
   have c2:¬ ((most:Nat):Int)<(((nx bs r).1:Nat):Int):=by omega
   have c3:aF .i64 (I .u64 (((nx bs r).1:Nat):Int))=some (I .i64 (((nx bs r).1:Nat):Int)):=by rw [aV,qC _ (by omega)]
   generalize R (d+2)=rr at *
   generalize (((nx bs r).1:Nat):Int)=V at *
   generalize ((most:Nat):Int)=M at *
   simp [e1,c1,c2,c3]
end
section
variable {s t u s0:St} {x y b:S} {l:List eQ} {bs:Bs}
def nf (l:List eQ) (k:Nat) (step:Int) (rest:Bs):Prop :=
 (k=0/\step=0/\((l=[]/\rest=[])\/∃ a r,l=a::r/\rest=iD a++fK 0 a r))\/∃ j was,k=j+1/\l[j]? = some was/\I6 step/\rest=fK step was (l.drop k)
theorem vD {k:Nat} {step:Int} {rest:Bs} (h:nf l k step rest) (hk:l.length<=k):rest=[]:=by
 rcases h with ⟨rfl,_,⟨_,h⟩ | ⟨a,r,rfl,_⟩⟩ | ⟨j,was,rfl,_,_,h⟩
 · exact h
 · simp at hk
 · rw [h,List.drop_eq_nil_of_le hk];rfl
theorem nW {e c p:Nat} {n:Int} (h:av e (Z x) (I .i64 n)=some (Z (.ptr c p))):own x=some c:=by
 unfold av at h
 split at h
 · rename_i heq
   injection heq with h1
   injection h1 with h1
   subst h1
   split at h
   · injection h with h
     injection h with h
     injection h with h
     injection h with h1 h2
     rw [← h1];rfl
   · cases h
 · cases h
theorem py {g g':Mem} {c p:Nat} (h:g c=g' c):ab (Z (.ptr c p)) g=ab (Z (.ptr c p)) g':=by
 simp only [ab,h]
set_option maxHeartbeats 4000000 in
theorem Av (d:Nat) {k:Nat} {step:Int} {acc rest:Bs} (h:oG s0 x l) (eH:∀ c,own x=some c->c<s0.size) (hb:FB s0 u b acc) (hr:nf l k step rest) (hk:k<l.length) (hl:l.length<=64) (ht:∀ a∈l,I6 a.t/\0<=a.t/\I6 a.v) (ha:acc.length<=22*k+11) :
 ∃ u' b' je kD rest',lS (R (d+1)) 8192 [Z x,Z b,I .i64 step,Z x,I .i64 l.length,I .i64 (k:Nat)] u=some (.normal [Z x,Z b',I .i64 je,Z x,I .i64 l.length,I .i64 ((k+1:Nat):Int)],u') ∧
   FB s0 u' b' kD/\nf l (k+1) je rest'/\kD++rest'=acc++rest/\kD.length<=22*(k+1)+11:=by
 have c0:((k:Nat):Int)<((l.length:Nat):Int):=by omega
 have w1:IntKind.i64.wrap ((k:Int)+1)=((k+1:Nat):Int):=by rw [aB _ (by omega) (by omega)];omega
 obtain ⟨a,Px⟩:∃ a,a=l[k]:=⟨_,rfl⟩
 have Cv:l[k]? = some a:=by rw [List.getElem?_eq_getElem hk,Px]
 obtain ⟨xL,ZA,Ny⟩:=ht a (List.mem_of_getElem? Cv)
 have hu:=h.gr eH hb.gr
 obtain ⟨c,p,ix,ld,_,_⟩:=oG.Dm hu (n:=((k:Nat):Int)) rfl Cv
 obtain ⟨u1,u2,e1,e2,g2,b2,z2,l0,l1⟩:=Oo hb.gr.wf a
 have iu:=Fr.kE hb g2
 have vl:∀ n,(aP n).length<=11:=bG
 have CR:own b≠some u.size:=fun e=>by have:=(hb.new _ e).2;omega
 rcases hr with ⟨rfl,rfl,⟨rfl,_⟩ | ⟨a',r,rfl,rfl⟩⟩ | ⟨j,was,rfl,hj,hst,rfl⟩
 · simp at hk
 · have:a'=a:=by simpa using Cv
   subst this
   have c1:aF .u64 (I .i64 a'.t)=some (I .u64 (a'.t.toNat:Nat)):=by
    have h1:a'.t=(a'.t.toNat:Int):=by omega
    have h2:=xL.2
    rw [aV]
    have:=wrap64 a'.t.toNat (by omega)
    rw [← h1] at this
    rw [this]
    congr 3
   obtain ⟨y1,u3,e3,f3⟩:=fG d iu.gr.wf a'.t.toNat (by have:=xL.2;omega)
   obtain ⟨b4,u4,e4,f4,z4,k4⟩:=FB.app (Fr.kE iu f3.gr) f3.rd (by have:=vl a'.t.toNat;omega)
   have z3:=f3.gr.2.1
   have SY:u3.get u.size=some (.cells true (cS a')):=f3.gr.get b2 g2.wf
   have Ri:u4.get u.size=some (.cells true (cS a')):=by rw [k4 _ (by omega) CR];exact SY
   have S4:ab (Z (.ptr u.size 1)) u4.get=some (I .i64 a'.v):=ai Ri rfl
   have WR:ab (Z (.ptr u.size 1)) u3.get=some (I .i64 a'.v):=ai SY rfl
   have e5:=xI (s:=u4) d Ny
   obtain ⟨y2,u6,e6,f6⟩:=fG d f4.gr.wf (dB a'.v) (ke Ny)
   obtain ⟨b7,u7,e7,f7,z7,k7⟩:=FB.app (Fr.kE f4 f6.gr) f6.rd (by have:=vl a'.t.toNat;have:=vl (dB a'.v);rw [List.length_append];omega)
   refine ⟨u7,b7,0,_,fK 0 a' r,?_,f7,.inr ⟨0,a',rfl,rfl,by unfold I6;omega,rfl⟩,by simp [iD,List.append_assoc],by have:=vl a'.t.toNat;have:=vl (dB a'.v);rw [List.length_append,List.length_append];omega⟩
   unfold lS
   have k0:((0:Nat):Int)=0:=rfl
   rw [k0] at ix c0
   have w1:IntKind.i64.wrap 1=((0+1:Nat):Int):=rfl
   generalize R (d+1)=rr at *
   generalize u.size=us at *
   generalize dB a'.v=zv at *
   generalize ((zv:Nat):Int)=zz at *
   generalize ((a'.t.toNat:Nat):Int)=tn at *
   generalize ((0+1:Nat):Int)=K1 at *
   generalize (((a'::r).length:Nat):Int)=LL at *
   simp [c0,ix,ld,e1,e2,l0,c1,e3,e4,S4,e5,e6,e7,l1,WR,w1]
 · have Wu:=ht was (List.mem_of_getElem? hj)
   have c1:¬ ((j+1:Nat):Int)=0:=by omega
   have w2:IntKind.i64.wrap (((j+1:Nat):Int)-1)=((j:Nat):Int):=by rw [aB _ (by omega) (by omega)];omega
   have yN:=hu.gr (fun c hc=>Nat.lt_of_lt_of_le (eH c hc) hb.gr.2.1) g2
   obtain ⟨c',p',EV,_,S8,Qc⟩:=oG.Dm yN (n:=((j:Nat):Int)) rfl hj
   have mv:c'<s0.size:=eH c' (nW EV)
   have V5:W6 (a.t-was.t)=W6 (a.t-was.t):=rfl
   have e5:=xI (s:=u2) d (iL (W6 (a.t-was.t)-step))
   obtain ⟨y1,u3,e3,f3⟩:=fG d iu.gr.wf (dB (W6 (W6 (a.t-was.t)-step))) (ke (iL _))
   obtain ⟨b4,u4,e4,f4,z4,k4⟩:=FB.app (Fr.kE iu f3.gr) f3.rd (by have:=vl (dB (W6 (W6 (a.t-was.t)-step)));omega)
   have z3:=f3.gr.2.1
   have SY:u3.get u.size=some (.cells true (cS a)):=f3.gr.get b2 g2.wf
   have Ri:u4.get u.size=some (.cells true (cS a)):=by rw [k4 _ (by omega) CR];exact SY
   have S4:ab (Z (.ptr u.size 1)) u4.get=some (I .i64 a.v):=ai Ri rfl
   have WR:ab (Z (.ptr u.size 1)) u3.get=some (I .i64 a.v):=ai SY rfl
   have kc3:u3.get c'=u2.get c':=f3.gr.2.2 c' (by have:=iu.gr.2.1;omega)
   have kc4:u4.get c'=u2.get c':=by rw [f4.gr.2.2 c' mv,iu.gr.2.2 c' mv]
   have lv4:ab (Z (.ptr c' (p'+1))) u4.get=some (I .i64 was.v):=by rw [py kc4];exact Qc
   have WZ:ab (Z (.ptr c' (p'+1))) u3.get=some (I .i64 was.v):=by rw [py kc3];exact Qc
   have e8:=xI (s:=u4) d (iL (a.v-was.v))
   obtain ⟨y2,u6,e6,f6⟩:=fG d f4.gr.wf (dB (W6 (a.v-was.v))) (ke (iL _))
   obtain ⟨b7,u7,e7,f7,z7,k7⟩:=FB.app (Fr.kE f4 f6.gr) f6.rd (by have:=vl (dB (W6 (W6 (a.t-was.t)-step)));have:=vl (dB (W6 (a.v-was.v)));rw [List.length_append];omega)
   have mE:l.drop (j+1)=a::l.drop (j+1+1):=by rw [List.drop_eq_getElem_cons hk,Px]
   refine ⟨u7,b7,W6 (a.t-was.t),_,fK (W6 (a.t-was.t)) a (l.drop (j+1+1)),?_,f7,.inr ⟨j+1,a,rfl,Cv,iL _,rfl⟩,?_,?_⟩
   · unfold lS
     generalize R (d+1)=rr at *
     generalize u.size=us at *
     have s1:af .sub (I .i64 a.t) (I .i64 was.t)=some (I .i64 (W6 (a.t-was.t))):=by rw [jg]
     have s2:af .sub (I .i64 (W6 (a.t-was.t))) (I .i64 step)=some (I .i64 (W6 (W6 (a.t-was.t)-step))):=by rw [jg]
     have s3:af .sub (I .i64 a.v) (I .i64 was.v)=some (I .i64 (W6 (a.v-was.v))):=by rw [jg]
     clear mE V5
     generalize W6 (W6 (a.t-was.t)-step)=A1 at *
     generalize W6 (a.t-was.t)=A2 at *
     generalize W6 (a.v-was.v)=A3 at *
     generalize ((dB A1:Nat):Int)=z1 at *
     generalize ((dB A3:Nat):Int)=z3 at *
     generalize ((j+1+1:Nat):Int)=K2 at *
     generalize ((j+1:Nat):Int)=K1 at *
     generalize ((j:Nat):Int)=K0 at *
     generalize ((l.length:Nat):Int)=LL at *
     simp [c0,ix,ld,e1,e2,l0,c1,w2,EV,S8,s1,s2,e5,e3,e4,S4,lv4,s3,e8,e6,e7,l1,WR,Qc,WZ,w1]
   · rw [mE];simp [fK,List.append_assoc]
   · have:=vl (dB (W6 (W6 (a.t-was.t)-step)));have:=vl (dB (W6 (a.v-was.v)))
     rw [List.length_append,List.length_append];omega
set_option maxHeartbeats 2000000 in
theorem yf (d:Nat) (wf:s.wf) (h:oG s x l) (eH:∀ c,own x=some c->c<s.size) (hok:zg l=true) (hv:∀ a∈l,I6 a.v):∃ y t,R (d+2) 155 [Z x] s=some (.eD [.s y,.s (.int .i64 0)],t)/\FB s t y (bh l):=by
 have sO:=hok
 unfold zg at sO
 rw [Bool.and_eq_true] at sO
 have hl:l.length<=64:=Nat.le_of_ble_eq_true sO.2
 have ht:∀ a∈l,I6 a.t/\0<=a.t/\I6 a.v:=fun a ha=>by
  have h1:=iI sO.1 a ha
  have h2:=hv a ha
  unfold I6 at *
  omega
 obtain ⟨s1,e1,g1⟩:=m5 d wf h eH (by omega)
 rw [sO.1] at e1
 have ll:=h.lens
 have c1:¬ 64<((l.length:Nat):Int):=by omega
 have c2:aF .u64 (I .i64 ((l.length:Nat):Int))=some (I .u64 ((l.length:Nat):Int)):=by rw [aV,wrap64 _ (by omega)]
 obtain ⟨b,s2,e2,f2⟩:=fG d g1.wf l.length (by omega)
 have h2:=h.gr eH (g1.trans f2.gr)
 have ZU:FB s s2 b (aP l.length):=Fr.from g1 f2
 have hblk:∃ rest,nf l 0 0 rest/\aP l.length++rest=bh l:=by
  cases l with
  | nil=>exact ⟨[],.inl ⟨rfl,rfl,.inl ⟨rfl,rfl⟩⟩,by simp [bh]⟩
  | cons a r=>exact ⟨iD a++fK 0 a r,.inl ⟨rfl,rfl,.inr ⟨a,r,rfl,rfl⟩⟩,by simp [bh]⟩
 obtain ⟨rest,hr,m9⟩:=hblk
 obtain ⟨j,τ,lp,y,rfl,hF⟩:=aW (f:=lS (R (d+1)) 8192)
  (fun q v u=>∃ (k:Nat) (b:S) (step:Int) (acc rest:Bs),q+k=l.length/\v=[Z x,Z b,I .i64 step,Z x,I .i64 l.length,I .i64 (k:Nat)]/\FB s u b acc/\nf l k step rest/\acc++rest=bh l/\acc.length<=22*k+11)
  (fun j u=>∃ y,j = .exit 0 [Z y]/\FB s u y (bh l)) (by
  rintro q v u ⟨k,b,step,acc,rest,hq,rfl,hb,hr,m9,hal⟩
  by_cases hk:k<l.length
  · left
    obtain ⟨u',b',je,kD,rest',e,hb',hr',AX,Py⟩:=Av d h eH hb hr hk hl ht hal
    exact ⟨_,u',q-1,e,by omega,k+1,b',je,kD,rest',by omega,rfl,hb',hr',by rw [AX,m9],Py⟩
  · right
    have hkk:k=l.length:=by omega
    subst hkk
    have:=vD hr (Nat.le_refl _)
    subst this
    rw [List.append_nil] at m9
    subst m9
    refine ⟨.exit 0 [Z b],u,?_,(fun v h=>by cases h),b,rfl,hb⟩
    unfold lS
    simp)
  8192 l.length _ s2 ⟨0,b,0,aP l.length,rest,by omega,rfl,ZU,hr,m9,by have:=bG l.length;omega⟩ (by omega)
 refine ⟨y,τ,?_,hF⟩
 rw [yB]
 unfold f155
 have e0:((0:Nat):Int)=0:=rfl
 rw [e0] at lp
 generalize R (d+1)=rr at *
 generalize ((l.length:Nat):Int)=LL at *
 simp [e1,ll,c1,c2,e2,lp,aQ,bI,kF]
theorem J2 (d:Nat) (wf:s.wf) (h:oG s x l) (eH:∀ c,own x=some c->c<s.size) (hok:zg l=false) (hl:l.length<=8000):∃ t,R (d+2) 155 [Z x] s=some (.eD [.s .az,.s (.int .i64 1)],t)/\Gr s t:=by
 obtain ⟨s1,e1,g1⟩:=m5 d wf h eH hl
 have ll:=h.lens
 refine ⟨s1,?_,g1⟩
 rw [yB]
 unfold f155
 unfold zg at hok
 cases hr:cC (-1) l with
 | false =>
   rw [hr] at e1
   generalize R (d+1)=rr at *
   simp [e1,aQ,bI]
 | true =>
   rw [hr] at e1 hok
   rw [Bool.true_and] at hok
   have c1:64<((l.length:Nat):Int):=by
    have:¬ l.length<=64:=fun h=>by rw [Nat.ble_eq_true_of_le h] at hok;cases hok
    omega
   generalize R (d+1)=rr at *
   generalize ((l.length:Nat):Int)=LL at *
   simp [e1,ll,c1,aQ,bI]
abbrev mq (s0 s:St) (x:S) (l:List eQ):Prop:=Fr 2 s0 s x l.length (cells cS l)
theorem mq.lit {e:eQ} (h:mq s0 s x l) (hl:l.length<=1000000) :
 ∃ x' t s',aK s (aR 1 (aE [.int .i64 0,.int .i64 0] [(0,2,AS e)]))=some (Z (.sl s.size 0 1 (.known 1)),s')/\aH 2 16 (Z x) (Z (.sl s.size 0 1 (.known 1))) s'=some (Z x',t)/\mq s0 t x' (l++[e])/\s.size<=t.size/\s'=s.push (.cells true (cS e)) ∧
   (∀ b,b<s.size->own x≠some b->t.get b=s.get b)/\(own x'=none\/own x'=own x\/∃ c,own x'=some c/\s.size<=c):=by
 have L:=Fr.lit 2 h.gr.1 (n:=1) (vs:=cells cS [e]) (by simp [cS])
 obtain ⟨x',t,e1,f,hz,k,n⟩:=(h.kE L.gr).nq (by_:=16) (by omega) L.rd.src (by simp [cS]) (by omega)
 refine ⟨x',t,_,rfl,e1,?_,Nat.le_trans L.gr.2.1 hz,rfl,fun b hb hx=>by rw [k b (by have:=L.gr.2.1;omega) hx,L.gr.2.2 b hb],?_⟩
 · unfold mq
   rw [fp,List.length_append]
   exact f
 · rcases n with n | n | ⟨c,n,hc⟩
   · exact .inl n
   · exact .inr (.inl n)
   · exact .inr (.inr ⟨c,n,by have:=L.gr.2.1;omega⟩)
end
section
variable {s t u s0:St} {x y b lx bx:S} {l acc:List eQ} {bs:Bs} {p:Nat} {r:Rr}
theorem mq.Jm (h:mq s u lx acc) (hp:s.size<=p) (hx:own lx≠some p) (wf:t.wf) (hz:t.size=u.size) (hk:∀ c,c≠p->t.get c=u.get c):mq s t lx acc:=by
 refine ⟨⟨wf,by have:=h.gr.2.1;omega,fun c hc=>by rw [hk c (by omega),h.gr.2.2 c hc]⟩,h.ow.keep fun c hc=>hk c fun e=>hx (by rw [hc,e]),fun c hc => ?_⟩
 have:=h.new c hc
 omega
set_option maxHeartbeats 4000000 in
theorem As (d:Nat) {step:Int} {m cnt:Nat} (hp:s.size<=p) (hr:u.get p=some (.cells true (cR bx r))) (hb:RB s bx bs) (xQ:∀ c,own bx=some c->c<s.size) (hl:bs.length<=100000) (ha:r.at_<=bs.length) (hx:mq s u lx acc) (Hv:own lx≠some p)
 (jB:r.bad=false) (hm:acc.length+(m+1)=cnt) (hc:cnt<=64) :
 ∃ u' zY kD je r',iW (R (d+2)) 8192 [Z bx,Z (.ptr p 0),Z lx,I .i64 step,I .i64 (cnt:Nat),I .i64 (acc.length:Nat)] u=some (.normal [Z bx,Z (.ptr p 0),Z zY,I .i64 je,I .i64 (cnt:Nat),I .i64 (kD.length:Nat)],u') ∧
   u'.get p=some (.cells true (cR bx r'))/\r'.at_<=bs.length/\mq s u' zY kD/\own zY≠some p/\kD.length=acc.length+1/\fq bs m kD je r'=fq bs (m+1) acc step r:=by
 have wf:=hx.gr.wf
 have Wd:=wf.lt hr
 have rb:∀ {v:St},Gr s v->RB v bx bs:=fun g=>Rd.gr hb xQ g
 have c0:((acc.length:Nat):Int)<((cnt:Nat):Int):=by omega
 have w1:IntKind.i64.wrap ((acc.length:Int)+1)=((acc.length+1:Nat):Int):=by rw [aB _ (by omega) (by omega)];omega
 have q2:ab (Z (.ptr p 2)) u.get=some (B false):=ai hr (by simp [cR,jB])
 obtain ⟨u1,e1,b1,z1,mB,a1,n1,k1⟩:=xd d wf hr (rb hx.gr) hl ha
 have hx1:=hx.Jm hp Hv mB z1 k1
 have v1:=xH (s:=u1) (d+1) n1
 have i1:aF .i64 (I .u64 (((nx bs r).1:Nat):Int))=some (I .i64 (W6 ((nx bs r).1:Nat))):=by rw [aV]
 cases hla:acc.getLast? with
 | none =>
   have hac:acc=[]:=List.getLast?_eq_none_iff.1 hla
   subst hac
   obtain ⟨u2,e2,b2,z2,Qy,a2,n2,k2⟩:=xd d mB b1 (rb hx1.gr) hl a1
   have hx2:=hx1.Jm hp Hv Qy z2 k2
   have v2:=xH (s:=u2) (d+1) n2
   obtain ⟨e,he⟩:∃ e:eQ,e=⟨W6 ((nx bs r).1:Nat),kL (nx bs (nx bs r).2).1⟩:=⟨_,rfl⟩
   obtain ⟨x',u4,u3,nw,ap,f4,z4,Hr,k4,n4⟩:=mq.lit (e:=e) hx2 (by simp)
   have hx':own x'≠some p:=fun h=>by
    rcases n4 with n | n | ⟨c,n,hc⟩
    · rw [n] at h;cases h
    · rw [n] at h;exact Hv h
    · rw [n] at h;cases h;omega
   refine ⟨u4,x',[e],step,(nx bs (nx bs r).2).2,?_,by rw [k4 p (by omega) Hv];exact b2,a2,f4,hx',rfl,?_⟩
   · unfold iW
     have ag:aU (aE [.int .i64 0,.int .i64 0] [(0,1,I .i64 (W6 ((nx bs r).1:Nat))),(1,1,I .i64 (kL (nx bs (nx bs r).2).1))])=some (AS e):=by rw [he];rfl
     have k0:(([]:List eQ).length:Int)=0:=rfl
     have k1':(([e]:List eQ).length:Int)=1:=rfl
     rw [k0] at c0 ⊢
     rw [k1']
     have w2:IntKind.i64.wrap 1=1:=rfl
     clear he
     generalize R (d+2)=rr at *
     generalize W6 (((nx bs r).1:Nat):Int)=A1 at *
     generalize (((nx bs r).1:Nat):Int)=A2 at *
     generalize kL (nx bs (nx bs r).2).1=A3 at *
     generalize (((nx bs (nx bs r).2).1:Nat):Int)=A4 at *
     generalize ((cnt:Nat):Int)=CC at *
     simp [c0,q2,e1,i1,e2,v2,ag,nw,ap,w2]
   · rw [fq]
     simp [jB,he]
 | some was =>
   have hne:0<acc.length:=by
    cases acc with
    | nil=>cases hla
    | cons _ _=>simp
   obtain ⟨k,hk⟩:∃ k,acc.length=k+1:=⟨acc.length-1,by omega⟩
   have hwk:acc[k]? = some was:=by
    rw [List.getLast?_eq_getElem?] at hla
    rwa [hk,Nat.add_sub_cancel] at hla
   have c1:¬ ((acc.length:Nat):Int)=0:=by omega
   have w2:IntKind.i64.wrap (((acc.length:Nat):Int)-1)=((k:Nat):Int):=by rw [aB _ (by omega) (by omega)];omega
   obtain ⟨c',p',ix,ld,_,_⟩:=oG.Dm hx1.rd (n:=((k:Nat):Int)) rfl hwk
   obtain ⟨u2,u3,e2,e3,g3,b3,z3,l0,l1⟩:=Oo mB was
   have hr3:u3.get p=some (.cells true (cR bx (nx bs r).2)):=g3.get b1 mB
   have SM:mq s u3 lx acc:=Fr.kE hx1 g3
   obtain ⟨u4,e4,b4,z4,Nt,a4,n4,k4⟩:=xd d g3.wf hr3 (rb SM.gr) hl a1
   have hx4:=SM.Jm hp Hv Nt z4 k4
   have v4:=xH (s:=u4) (d+1) n4
   have Ri:u4.get u1.size=some (.cells true (cS was)):=by rw [k4 _ (by omega)];exact b3
   obtain ⟨e,he⟩:∃ e:eQ,e=⟨W6 (was.t+W6 (step+kL (nx bs r).1)),W6 (was.v+kL (nx bs (nx bs r).2).1)⟩:=⟨_,rfl⟩
   obtain ⟨x',u6,u5,nw,ap,f6,z6,hu5,k6,n6⟩:=mq.lit (e:=e) hx4 (by omega)
   have hx':own x'≠some p:=fun h=>by
    rcases n6 with n | n | ⟨c,n,hc⟩
    · rw [n] at h;cases h
    · rw [n] at h;exact Hv h
    · rw [n] at h;cases h;omega
   have hlen:(acc++[e]).length=acc.length+1:=by simp
   have PQ:∀ (P:Nat) (y:JN) (q j:Nat) (bk:dO),(q,j,bk)∈Bw P u4.size y []->j≠u1.size:=fun P y q j bk hm=>by
    rcases xf hm with rfl | hm
    · omega
    · cases hm
   refine ⟨u6,x',acc++[e],W6 (step+kL (nx bs r).1),(nx bs (nx bs r).2).2,?_,by rw [k6 p (by omega) Hv];exact b4,a4,f6,hx',hlen,?_⟩
   · have o1:∀ P y,ab (Z (.ptr u1.size 0)) (cq P u4.get (Bw 12 u4.size y []))=some (I .i64 was.t):=fun P y=>(CQ Ri b3 (x := .int .i64 was.t) rfl (PQ _ _)).trans l0
     have o2:∀ P y,ab (Z (.ptr u1.size 1)) (cq P u4.get (Bw 12 u4.size y []))=some (I .i64 was.v):=fun P y=>(CQ Ri b3 (x := .int .i64 was.v) rfl (PQ _ _)).trans l1
     have s1:af .add (I .i64 step) (I .i64 (kL (nx bs r).1))=some (I .i64 (W6 (step+kL (nx bs r).1))):=by rw [dm]
     have s2:af .add (I .i64 was.t) (I .i64 (W6 (step+kL (nx bs r).1)))=some (I .i64 (W6 (was.t+W6 (step+kL (nx bs r).1)))):=by rw [dm]
     have s3:af .add (I .i64 was.v) (I .i64 (kL (nx bs (nx bs r).2).1))=some (I .i64 (W6 (was.v+kL (nx bs (nx bs r).2).1))):=by rw [dm]
     have ag:aU (aE [.int .i64 0,.int .i64 0] [(0,1,I .i64 (W6 (was.t+W6 (step+kL (nx bs r).1)))),(1,1,I .i64 (W6 (was.v+kL (nx bs (nx bs r).2).1)))])=some (AS e):=by rw [he];rfl
     unfold iW
     rw [hlen]
     clear he PQ
     generalize R (d+2)=rr at *
     generalize W6 (was.t+W6 (step+kL (nx bs r).1))=T1 at *
     generalize W6 (step+kL (nx bs r).1)=T2 at *
     generalize W6 (was.v+kL (nx bs (nx bs r).2).1)=T3 at *
     generalize kL (nx bs (nx bs r).2).1=A3 at *
     generalize kL (nx bs r).1=A5 at *
     generalize (((nx bs (nx bs r).2).1:Nat):Int)=A4 at *
     generalize (((nx bs r).1:Nat):Int)=A2 at *
     generalize u1.size=us at *
     generalize ((acc.length+1:Nat):Int)=N1 at *
     generalize ((acc.length:Nat):Int)=N0 at *
     generalize ((k:Nat):Int)=K0 at *
     generalize ((cnt:Nat):Int)=CC at *
     simp [c0,q2,c1,e1,v1,s1,w2,ix,ld,e2,e3,l0,s2,l1,e4,v4,s3,ag,nw,ap,w1,o1,o2]
   · rw [fq]
     simp [jB,he,hla]
theorem wD (bs:Bs) (hn:∀ r,(nx bs r).1<2 ^ 64):∀ (m:Nat) (acc:List eQ) (step:Int) (r:Rr),(∀ a∈acc,I6 a.v)->∀ a∈(fq bs m acc step r).1,I6 a.v
 | 0,acc,step,r,h,a,ha=>h a ha
 | m+1,acc,step,r,h,a,ha=>by
   rw [fq] at ha
   split at ha
   · exact h a ha
   · split at ha
     · refine wD bs hn m _ _ _ (fun b hb => ?_) a ha
       rw [List.mem_singleton] at hb
       rw [hb]
       exact QA (hn _)
     · refine wD bs hn m _ _ _ (fun b hb => ?_) a ha
       rcases List.mem_append.1 hb with hb | hb
       · exact h b hb
       · rw [List.mem_singleton] at hb
         rw [hb]
         exact iL _
theorem Ta (bs:Bs) (r:Rr):(nx bs r).1<2 ^ 64:=by
 unfold nx
 cases h:jF bs r.at_ with
 | none=>exact (show (0:Nat)<2 ^ 64 by decide)
 | some o=>exact zP h
theorem sj (bs:Bs):∀ (m:Nat) (acc:List eQ) (step:Int) (r:Rr),(fq bs m acc step r).1.length<=acc.length+m
 | 0,acc,step,r=>by simp [fq]
 | m+1,acc,step,r=>by
   rw [fq]
   split
   · simp
   · split
     · rename_i h
       have:=sj bs m [⟨W6 (nx bs r).1,kL (nx bs (nx bs r).2).1⟩] step (nx bs (nx bs r).2).2
       simp at this
       have h0:acc=[]:=List.getLast?_eq_none_iff.1 h
       subst h0
       simp
       omega
     · rename_i was h
       have:=sj bs m (acc++[⟨W6 (was.t+W6 (step+kL (nx bs r).1)),W6 (was.v+kL (nx bs (nx bs r).2).1)⟩]) (W6 (step+kL (nx bs r).1)) (nx bs (nx bs r).2).2
       simp at this
       omega
set_option maxHeartbeats 2000000 in
theorem Dp (d:Nat) {cnt m:Nat} {step:Int} (hp:s.size<=p) (hr:u.get p=some (.cells true (cR bx r))) (hb:RB s bx bs) (xQ:∀ c,own bx=some c->c<s.size) (hl:bs.length<=100000) (ha:r.at_<=bs.length) (hx:mq s u lx acc) (Hv:own lx≠some p)
 (hm:acc.length+m=cnt) (hc:cnt<=64) :
 ∃ u' zY,loops (iW (R (d+2)) 8192) 8192 [Z bx,Z (.ptr p 0),Z lx,I .i64 step,I .i64 (cnt:Nat),I .i64 (acc.length:Nat)] u=some (.exit 0 [Z bx,Z (.ptr p 0),Z zY],u') ∧
   u'.get p=some (.cells true (cR bx (fq bs m acc step r).2))/\mq s u' zY (fq bs m acc step r).1:=by
 obtain ⟨D,hD⟩:∃ D,D=fq bs m acc step r:=⟨_,rfl⟩
 obtain ⟨j,τ,lp,zY,rfl,h1,h2⟩:=aW (f:=iW (R (d+2)) 8192)
  (fun q v u=>∃ (lx:S) (acc:List eQ) (step:Int) (r:Rr),acc.length+q=cnt/\v=[Z bx,Z (.ptr p 0),Z lx,I .i64 step,I .i64 (cnt:Nat),I .i64 (acc.length:Nat)]/\u.get p=some (.cells true (cR bx r))/\r.at_<=bs.length/\mq s u lx acc/\own lx≠some p/\fq bs q acc step r=D)
  (fun j u=>∃ lx,j = .exit 0 [Z bx,Z (.ptr p 0),Z lx]/\u.get p=some (.cells true (cR bx D.2))/\mq s u lx D.1) (by
  rintro q v u ⟨lx,acc,step,r,hq,rfl,hr,ha,hx,Hv,hd⟩
  cases q with
  | zero =>
    right
    have hk:acc.length=cnt:=by omega
    refine ⟨.exit 0 [Z bx,Z (.ptr p 0),Z lx],u,?_,(fun v h=>by cases h),lx,rfl,by rw [← hd];exact hr,by rw [← hd];exact hx⟩
    unfold iW
    rw [hk]
    simp
  | succ q =>
    cases jB:r.bad with
    | true =>
      right
      have q2:ab (Z (.ptr p 2)) u.get=some (B true):=ai hr (by simp [cR,jB])
      have c0:((acc.length:Nat):Int)<((cnt:Nat):Int):=by omega
      have jV:D=(acc,r):=by rw [← hd,fq,if_pos jB]
      refine ⟨.exit 0 [Z bx,Z (.ptr p 0),Z lx],u,?_,(fun v h=>by cases h),lx,rfl,by rw [jV];exact hr,by rw [jV];exact hx⟩
      unfold iW
      generalize ((acc.length:Nat):Int)=N0 at *
      generalize ((cnt:Nat):Int)=CC at *
      simp [c0,q2]
    | false =>
      left
      obtain ⟨u',zY,kD,je,r',e,b',a',f',x',l',d'⟩:=As d hp hr hb xQ hl ha hx Hv jB hq hc (step:=step)
      exact ⟨_,u',q,e,rfl,zY,kD,je,r',by omega,rfl,b',a',f',x',by rw [d',hd]⟩)
  8192 m _ u ⟨lx,acc,step,r,hm,rfl,hr,ha,hx,Hv,hD.symm⟩ (by omega)
 rw [← hD]
 exact ⟨τ,zY,lp,h1,h2⟩
def BM (o:Option (List eQ)) (y:S):T:=match o with
 | some l => .eD [.s y,.s (.int .i64 0)]
 | none => .eD [.s .az,.s (.int .i64 2)]
set_option maxHeartbeats 4000000 in
theorem FI (d:Nat) (wf:s.wf) (hb:RB s bx bs) (xQ:∀ c,own bx=some c->c<s.size) (hl:bs.length<=8000):∃ y t,R (d+4) 119 [Z bx] s=some (BM (ug bs) y,t)/\Gr s t/\∀ l,ug bs=some l->mq s t y l:=by
 obtain ⟨s1,hs1⟩:∃ s1,s1=s.push (.cells true (cR bx ⟨0,false⟩)):=⟨_,rfl⟩
 have ag:aU (aE [.az,.int .i64 0,.bool false] [(0,1,Z bx)])=some (.v (.agg (cR bx ⟨0,false⟩))):=rfl
 have nw:aK s (ct (.v (.agg (cR bx ⟨0,false⟩))))=some (Z (.ptr s.size 0),s1):=by rw [hs1];rfl
 have g1:Gr s s1:=by rw [hs1];exact Gr.push wf _
 have b1:s1.get s.size=some (.cells true (cR bx ⟨0,false⟩)):=by rw [hs1];exact St.aq _ _
 have uh:RB s1 bx bs:=Rd.gr hb xQ g1
 obtain ⟨s2,e2,b2,z2,Qy,a2,l2,k2⟩:=J6 d g1.wf b1 uh (by omega) (Nat.zero_le _) (most:=64) (by decide)
 have g2:Gr s s2:=⟨Qy,by have:=g1.2.1;omega,fun c hc=>by rw [k2 c (by omega),g1.2.2 c hc]⟩
 have x2:mq s s2 .az []:=⟨g2,Ow.nil 2 s2,fun c hc=>by cases hc⟩
 obtain ⟨s3,lx,lp,b3,f3⟩:=Dp (d+1) (step:=0) (m:=(fg bs 64 ⟨0,false⟩).1) (Nat.le_refl _) b2 hb xQ (by omega) a2 x2 (fun h=>by cases h) (by simp) l2
 obtain ⟨l,hL⟩:∃ l,l=(fq bs (fg bs 64 ⟨0,false⟩).1 [] 0 (fg bs 64 ⟨0,false⟩).2).1:=⟨_,rfl⟩
 obtain ⟨bad,hB⟩:∃ b,b=(fq bs (fg bs 64 ⟨0,false⟩).1 [] 0 (fg bs 64 ⟨0,false⟩).2).2.bad:=⟨_,rfl⟩
 have hv:∀ a∈l,I6 a.v:=by rw [hL];exact wD bs (Ta bs) _ _ _ _ (fun a ha=>by cases ha)
 have eC:l.length<=64:=by
  have:=sj bs (fg bs 64 ⟨0,false⟩).1 [] 0 (fg bs 64 ⟨0,false⟩).2
  rw [← hL] at this
  simp at this
  omega
 rw [← hL] at f3
 have hG:ug bs=if (bad || !zg l)=true then none else if bh l=bs then some l else none:=by unfold ug;rw [hL,hB]
 have YG:∀ c,own lx=some c->c<s3.size:=fun c hc=>(f3.new c hc).2
 rw [Ge]
 unfold f119
 have e0:(([]:List eQ).length:Int)=0:=rfl
 rw [e0] at lp
 have ZQ:((64:Nat):Int)=64:=rfl
 rw [ZQ] at e2
 cases hok:zg l with
 | false =>
   obtain ⟨s4,e4,g4⟩:=J2 (d+1) f3.gr.wf f3.rd YG hok (by omega)
   have q2:ab (Z (.ptr s.size 2)) s4.get=some (B bad):=ai (g4.get b3 f3.gr.wf) (by rw [hB];rfl)
   have hg:ug bs=none:=by rw [hG,if_pos (by rw [hok];simp)]
   rw [hg]
   refine ⟨.az,s4,?_,f3.gr.trans g4,fun l h=>by cases h⟩
   generalize R (d+3)=rr at *
   generalize s.size=p at *
   generalize (((fg bs 64 ⟨0,false⟩).1:Nat):Int)=CC at *
   cases bad with
   | true=>simp [ag,nw,e2,lp,e4,ah,q2,aQ,bI,BM]
   | false=>simp [ag,nw,e2,lp,e4,ah,q2,aQ,bI,BM]
 | true =>
   obtain ⟨y,s4,e4,f4⟩:=yf (d+1) f3.gr.wf f3.rd YG hok hv
   have q2:ab (Z (.ptr s.size 2)) s4.get=some (B bad):=ai (f4.gr.get b3 f3.gr.wf) (by rw [hB];rfl)
   have h4:RB s4 bx bs:=Rd.gr hb xQ (f3.gr.trans f4.gr)
   have e5:=wh (d+2) f4.rd h4
   simp only [Nat.add_assoc,Nat.reduceAdd] at e4 e5
   cases bad with
   | true =>
     have hg:ug bs=none:=by rw [hG,if_pos (by simp)]
     rw [hg]
     refine ⟨.az,s4,?_,f3.gr.trans f4.gr,fun l h=>by cases h⟩
     generalize R (d+3)=rr at *
     generalize s.size=p at *
     generalize (((fg bs 64 ⟨0,false⟩).1:Nat):Int)=CC at *
     simp [ag,nw,e2,lp,e4,ah,q2,aQ,bI,BM]
   | false =>
     by_cases he:bh l=bs
     · have hg:ug bs=some l:=by rw [hG,hok];simp [he]
       rw [hg]
       refine ⟨lx,s4,?_,f3.gr.trans f4.gr,fun l' h=>by
        cases h
        exact Fr.kE f3 f4.gr⟩
       rw [decide_eq_true he] at e5
       generalize R (d+3)=rr at *
       generalize s.size=p at *
       generalize (((fg bs 64 ⟨0,false⟩).1:Nat):Int)=CC at *
       simp [ag,nw,e2,lp,e4,ah,q2,e5,aQ,bI,BM]
     · have hg:ug bs=none:=by rw [hG,hok];simp [he]
       rw [hg]
       refine ⟨.az,s4,?_,f3.gr.trans f4.gr,fun l h=>by cases h⟩
       rw [decide_eq_false he] at e5
       generalize R (d+3)=rr at *
       generalize s.size=p at *
       generalize (((fg bs 64 ⟨0,false⟩).1:Nat):Int)=CC at *
       simp [ag,nw,e2,lp,e4,ah,q2,e5,aQ,bI,BM]
end
structure Sg where
 i:Int
 f:Int
 o:Int
 l:List eQ
structure jj (g:Sg):Prop where
 i1:1<=g.i
 i2:g.i<=1073741824
 f0:0<=g.f
 fo:g.f<g.o
 o2:g.o<=1099511627776
 ne:g.l≠[]
 ok:zg g.l=true
 vs:∀ a∈g.l,I6 a.v
 lo:∀ a,g.l[0]? = some a->g.f<=a.t
 hi:∀ a,g.l.getLast? = some a->a.t<g.o
def iQ (g:Sg):Bs:=[84,75]++(aP g.i.toNat++(aP 0++(aP g.f.toNat++aP (g.o-g.f).toNat)))
def bg (g:Sg):Bs:=iQ g++bh g.l
def bW (g:Sg):Bs:=bg g++four (bN 1 (bg g))
def cG (g:Sg) (x:S):List S:=[.int .i64 g.i,.int .i64 0,.int .i64 g.f,.int .i64 g.o,x,.az]
abbrev AG (g:Sg) (x:S):T := .v (.agg (cG g x))
theorem zr:∀ (l:List eQ) (step:Int) (was:eQ),(fK step was l).length<=22*l.length
 | [],_,_=>by simp [fK]
 | a::r,step,was=>by
   have h1:=zr r (W6 (a.t-was.t)) a
   have h2:=bG (dB (W6 (W6 (a.t-was.t)-step)))
   have h3:=bG (dB (W6 (a.v-was.v)))
   simp only [fK,List.length_append,List.length_cons]
   omega
theorem rX (l:List eQ):(bh l).length<=11+22*l.length:=by
 cases l with
 | nil=>have:=bG 0;simp [bh];omega
 | cons a r =>
   have h1:=zr r 0 a
   have h2:=bG (r.length+1)
   have h3:=bG a.t.toNat
   have h4:=bG (dB a.v)
   simp only [bh,iD,List.length_append,List.length_cons]
   omega
theorem He (g:Sg):(iQ g).length<=46:=by
 have h1:=bG g.i.toNat
 have h2:=bG 0
 have h3:=bG g.f.toNat
 have h4:=bG (g.o-g.f).toNat
 simp only [iQ,List.length_append,List.length_cons,List.length_nil]
 omega
theorem jj.Co {g:Sg} (h:jj g):g.l.length<=64:=by
 have h':=h.ok
 unfold zg at h'
 rw [Bool.and_eq_true] at h'
 exact Nat.le_of_ble_eq_true h'.2
theorem ik {g:Sg} (h:jj g):(bg g).length<=1500:=by
 have h1:=rX g.l
 have h2:=He g
 have h3:=h.Co
 simp only [bg,List.length_append]
 omega
theorem jE {g:Sg} (h:jj g):(bW g).length=(bg g).length+4:=by simp [bW,four]
section
variable {s t u s0:St} {x y b lx bx:S} {l acc:List eQ} {bs:Bs} {p:Nat} {r:Rr} {g:Sg}
theorem Hf (d:Nat) (h:jj g):R (d+1) 199 [I .i64 g.i,I .i64 0,I .i64 g.f,I .i64 g.o] s=some (B true,s):=by
 rw [GP]
 unfold f199
 have h1:=h.i1
 have h2:=h.i2
 have h3:=h.f0
 have h4:=h.fo
 have h5:=h.o2
 simp [h1,h2,h3,h4,h5]
theorem px {i:Nat} {w:Bool} {m:Mem} (h:m i=some (.cells w (cG g x))):aG 6 (Z (.ptr i 0)) m=some (AG g x):=by
 simp [aG,h,cG]
theorem rE {i:Nat} {vs:List S} (h:s.get i=some (.cells true vs)) (hv:vs.length=6):aw 6 (Z (.ptr i 0)) (AG g x) s=some (tt,s.set i (.cells true (cG g x))):=by
 have hb:(V.agg (cG g x)).cells.length=6/\0+6<=vs.length:=⟨rfl,by omega⟩
 simp only [aw,h,if_pos hb]
 rw [show (V.agg (cG g x)).cells=cG g x from rfl,ez (by rw [hv];rfl)]
set_option maxHeartbeats 1000000 in
theorem Jb (d:Nat) (wf:s.wf) (h:jj g) (hx:oG s x g.l) (eH:∀ c,own x=some c->c<s.size):∃ t,R (d+2) 158 [AG g x] s=some (B true,t)/\Gr s t:=by
 obtain ⟨s1,hs1⟩:∃ s1,s1=s.push (.cells true (cG g x)):=⟨_,rfl⟩
 have nw:aK s (ct (AG g x))=some (Z (.ptr s.size 0),s1):=by rw [hs1];rfl
 have g1:Gr s s1:=by rw [hs1];exact Gr.push wf _
 have b1:s1.get s.size=some (.cells true (cG g x)):=by rw [hs1];exact St.aq _ _
 have q0:ab (Z (.ptr s.size 0)) s1.get=some (I .i64 g.i):=ai b1 rfl
 have q1:ab (Z (.ptr s.size 1)) s1.get=some (I .i64 0):=ai b1 rfl
 have q2:ab (Z (.ptr s.size 2)) s1.get=some (I .i64 g.f):=ai b1 rfl
 have q3:ab (Z (.ptr s.size 3)) s1.get=some (I .i64 g.o):=ai b1 rfl
 have q4:ab (Z (.ptr s.size 4)) s1.get=some (Z x):=ai b1 rfl
 have q5:ab (Z (.ptr s.size 5)) s1.get=some (Z .az):=ai b1 rfl
 have e1:=Hf (s:=s1) d h
 have hx1:=hx.gr eH g1
 have uo:∀ c,own x=some c->c<s1.size:=fun c hc=>Nat.lt_of_lt_of_le (eH c hc) g1.2.1
 have hf:=h.Co
 obtain ⟨s3,e3,g3⟩:=m5 d g1.wf hx1 uo (by omega)
 have hok:=h.ok
 unfold zg at hok
 rw [Bool.and_eq_true] at hok
 rw [hok.1] at e3
 have b3:=g3.get b1 g1.wf
 have p2:ab (Z (.ptr s.size 2)) s3.get=some (I .i64 g.f):=ai b3 rfl
 have p3:ab (Z (.ptr s.size 3)) s3.get=some (I .i64 g.o):=ai b3 rfl
 have p4:ab (Z (.ptr s.size 4)) s3.get=some (Z x):=ai b3 rfl
 have SM:=hx1.gr uo g3
 have hpos:0<g.l.length:=List.length_pos_iff.2 h.ne
 obtain ⟨a,ha⟩:∃ a,g.l[0]? = some a:=⟨_,List.getElem?_eq_getElem hpos⟩
 obtain ⟨z,hz⟩:∃ z,g.l[g.l.length-1]? = some z:=⟨_,List.getElem?_eq_getElem (by omega)⟩
 have ur:g.l.getLast? = some z:=by rw [List.getLast?_eq_getElem?];exact hz
 have h1:=h.lo a ha
 have h2:=h.hi z ur
 obtain ⟨ca,pa,ia,_,la,_⟩:=oG.Dm SM (n:=0) (j:=0) rfl ha
 obtain ⟨cz,pz,iz,_,lz,_⟩:=oG.Dm SM (n:=((g.l.length:Nat):Int)-1) (j:=g.l.length-1) (by omega) hz
 have ll:=hx1.lens
 have w1:IntKind.i64.wrap (((g.l.length:Nat):Int)-1)=((g.l.length:Nat):Int)-1:=aB _ (by omega) (by omega)
 have c1:(1:Int)<=((g.l.length:Nat):Int):=by omega
 have c2:((g.l.length:Nat):Int)<=64:=by omega
 refine ⟨s3,?_,g1.trans g3⟩
 rw [Gu]
 unfold f158
 generalize R (d+1)=rr at *
 generalize s.size=ss at *
 generalize ((g.l.length:Nat):Int)=LL at *
 simp [nw,q0,q1,q2,q3,e1,q4,q5,ll,c1,c2,e3,p4,ia,la,p2,h1,w1,iz,lz,p3,h2,wq,kF]
def dt:List Nat->Bs
 | []=>[]
 | n::r=>aP n++dt r
theorem ma:∀ a b:List Nat,dt (a++b)=dt a++dt b
 | [],b=>rfl
 | n::r,b=>by simp [dt,ma r b,List.append_assoc]
def bR (g:Sg):List Nat:=[g.i.toNat,0,g.f.toNat,(g.o-g.f).toNat]
theorem nL (g:Sg):iQ g=[84,75]++dt (bR g):=by simp [iQ,bR,dt]
theorem zf {g:Sg} (h:jj g):∀ n∈bR g,n<=1099511627776:=by
 intro n hn
 have h2:=h.i2
 have h5:=h.o2
 have h4:=h.fo
 have h3:=h.f0
 simp only [bR,List.mem_cons,List.not_mem_nil,or_false] at hn
 rcases hn with rfl | rfl | rfl | rfl<;>omega
theorem vt:∀ l:List Nat,(dt l).length<=11*l.length
 | []=>by simp [dt]
 | n::r=>by
   have h1:=vt r
   have h2:=bG n
   simp only [dt,List.length_append,List.length_cons]
   omega
theorem EB (d:Nat) {T0:T} {Qf:S} (hb:FB s u b bs) (hn:Rd 1 u Qf 4 ((bR g).map fun n:Nat=>S.int .u64 (n:Int))) (NM:∀ c,own Qf=some c->c<u.size/\own b≠some c) (h:jj g) (hl:bs.length<=1000) :
 ∃ b' u',loops (ny (R (d+1)) 8192) 8192 [T0,Z b,Z Qf,I .i64 4,I .i64 0] u=some (.exit 0 [T0,Z b'],u')/\FB s u' b' (bs++dt (bR g)):=by
 obtain ⟨j,τ,lp,b',rfl,hF⟩:=aW (f:=ny (R (d+1)) 8192)
  (fun q v w=>∃ (k:Nat) (b:S),q+k=4/\v=[T0,Z b,Z Qf,I .i64 4,I .i64 (k:Nat)]/\FB s w b (bs++dt ((bR g).take k))/\Rd 1 w Qf 4 ((bR g).map fun n:Nat=>S.int .u64 (n:Int))/\(∀ c,own Qf=some c->c<w.size/\own b≠some c))
  (fun j w=>∃ b,j = .exit 0 [T0,Z b]/\FB s w b (bs++dt (bR g))) (by
  rintro q v w ⟨k,b,hq,rfl,hb,hn,NM⟩
  by_cases hk:k<4
  · left
    have hlen:(bR g).length=4:=rfl
    obtain ⟨n,hne⟩:∃ n,n=(bR g)[k]'(by omega):=⟨_,rfl⟩
    have hnk:(bR g)[k]? = some n:=by rw [List.getElem?_eq_getElem (by omega),hne]
    have VU:=zf h n (List.mem_of_getElem? hnk)
    obtain ⟨P,ix,ld⟩:=hn.xL (i:=((k:Nat):Int)) (j:=k) (v:=S.int .u64 ((n:Nat):Int)) rfl (by rw [List.getElem?_map,hnk];rfl)
    obtain ⟨y1,w1,e1,f1⟩:=fG d hb.gr.wf n (by omega)
    have m9:(bs++dt ((bR g).take k)).length<=1100:=by
     have:=vt ((bR g).take k)
     rw [List.length_take] at this
     rw [List.length_append]
     omega
    obtain ⟨b2,w2,e2,f2,z2,k2,n2⟩:=FB.Og (Fr.kE hb f1.gr) f1.rd (by have:=bG n;omega)
    have c0:((k:Nat):Int)<4:=by omega
    have wi:IntKind.i64.wrap ((k:Int)+1)=((k+1:Nat):Int):=by rw [aB _ (by omega) (by omega)];omega
    have kZ:(bR g).take (k+1)=(bR g).take k++[n]:=by rw [List.take_add_one,hnk];rfl
    have z1:=f1.gr.2.1
    refine ⟨[T0,Z b2,Z Qf,I .i64 4,I .i64 ((k+1:Nat):Int)],w2,q-1,?_,by omega,k+1,b2,by omega,rfl,?_,hn.keep fun c hc => ?_,fun c hc=>⟨by have:=NM c hc;omega,fun iu => ?_⟩⟩
    · unfold ny
      generalize R (d+1)=rr at *
      generalize ((k+1:Nat):Int)=K1 at *
      generalize ((k:Nat):Int)=K0 at *
      generalize ((n:Nat):Int)=NN at *
      simp [c0,ix,ld,e1,e2,wi]
    · rw [kZ,ma,← List.append_assoc]
      simpa [dt] using f2
    · rw [k2 c (by have:=NM c hc;omega) (NM c hc).2,f1.gr.2.2 c (NM c hc).1]
    · rcases n2 with e | e | ⟨c',e,gY⟩
      · rw [e] at iu;cases iu
      · rw [e] at iu;exact (NM c hc).2 iu
      · rw [e] at iu;cases iu;have:=NM c hc;omega
  · right
    have hkk:k=4:=by omega
    subst hkk
    have hlen:(bR g).take 4=bR g:=rfl
    rw [hlen] at hb
    refine ⟨.exit 0 [T0,Z b],w,?_,(fun v h=>by cases h),b,rfl,hb⟩
    unfold ny
    have:((4:Nat):Int)=4:=rfl
    rw [this]
    simp)
  8192 4 _ u ⟨0,b,by omega,rfl,by simpa [dt] using hb,hn,NM⟩ (by decide)
 exact ⟨b',τ,lp,hF⟩
end
section
variable {s t u s0:St} {x y b lx bx:S} {l acc:List eQ} {bs:Bs} {p:Nat} {r:Rr} {g:Sg}
theorem Ja (d:Nat) (wf:s.wf) (q:Nat):∃ y t,R (d+1) 160 [I .u32 q] s=some (Z y,t)/\FB s t y (four q):=by
 rw [Gw]
 unfold f160
 have nw:=P9 s (q%256) (q / 2 ^ 8%256) (q / 2 ^ 16%256) (q / 2 ^ 24%256)
 have hU:U (four q)=[.int .u8 (q%256:Nat),.int .u8 (q / 2 ^ 8%256:Nat),.int .u8 (q / 2 ^ 16%256:Nat),.int .u8 (q / 2 ^ 24%256:Nat)]:=by
  simp only [U,four,List.map_cons,List.map_nil,dU]
 rw [← hU] at nw
 have c0:=fH q
 have c1:=fH (q / 2 ^ 8)
 have c2:=fH (q / 2 ^ 16)
 have c3:=fH (q / 2 ^ 24)
 have r1:af .shr (I .u32 q) (I .u64 8)=some (I .u32 ((q / 2 ^ 8:Nat))):=eS .u32 q 8 (by decide)
 have r2:af .shr (I .u32 q) (I .u64 16)=some (I .u32 ((q / 2 ^ 16:Nat))):=eS .u32 q 16 (by decide)
 have r3:af .shr (I .u32 q) (I .u64 24)=some (I .u32 ((q / 2 ^ 24:Nat))):=eS .u32 q 24 (by decide)
 refine ⟨_,_,?_,Fr.lit 1 wf (n:=4) (vs:=U (four q)) rfl⟩
 generalize s.push (.cells true (U (four q)))=t at nw ⊢
 generalize ((q / 2 ^ 8%256:Nat):Int)=a1 at nw c1 ⊢
 generalize ((q / 2 ^ 16%256:Nat):Int)=a2 at nw c2 ⊢
 generalize ((q / 2 ^ 24%256:Nat):Int)=a3 at nw c3 ⊢
 generalize ((q%256:Nat):Int)=a0 at nw c0 ⊢
 generalize ((q / 2 ^ 8:Nat):Int)=b1 at r1 c1 ⊢
 generalize ((q / 2 ^ 16:Nat):Int)=b2 at r2 c2 ⊢
 generalize ((q / 2 ^ 24:Nat):Int)=b3 at r3 c3 ⊢
 generalize ((q:Nat):Int)=b0 at *
 simp [c0,r1,c1,r2,c2,r3,c3,nw]
set_option maxHeartbeats 4000000 in
theorem Jc (d:Nat) (wf:s.wf) (h:jj g) (hx:oG s x g.l) (eH:∀ c,own x=some c->c<s.size):∃ y t,R (d+3) 121 [AG g x] s=some (.eD [.s y,.s (.int .i64 0)],t)/\FB s t y (bW g):=by
 obtain ⟨s1,hs1⟩:∃ s1,s1=s.push (.cells true (cG g x)):=⟨_,rfl⟩
 have nw:aK s (ct (AG g x))=some (Z (.ptr s.size 0),s1):=by rw [hs1];rfl
 have g1:Gr s s1:=by rw [hs1];exact Gr.push wf _
 have b1:s1.get s.size=some (.cells true (cG g x)):=by rw [hs1];exact St.aq _ _
 have q6:=px (m:=s1.get) b1
 have hx1:=hx.gr eH g1
 have uo:∀ c,own x=some c->c<s1.size:=fun c hc=>Nat.lt_of_lt_of_le (eH c hc) g1.2.1
 obtain ⟨s2,e2,g2⟩:=Jb d g1.wf h hx1 uo
 have b2:=g2.get b1 g1.wf
 have L4:=Fr.lit 1 g2.wf (n:=2) (vs:=U [84,75]) rfl
 obtain ⟨s4,hs4⟩:∃ s4,s4=s2.push (.cells true (U [84,75])):=⟨_,rfl⟩
 rw [← hs4] at L4
 have Aa:aK s2 (aR 2 (aE [.int .u8 0,.int .u8 0] [(0,1,(I .u8 84)),(1,1,(I .u8 75))]))=some (Z (.sl s2.size 0 2 (.known 2)),s4):=by rw [hs4];rfl
 have b4:=L4.gr.get b2 g2.wf
 have q0:ab (Z (.ptr s.size 0)) s4.get=some (I .i64 g.i):=ai b4 rfl
 have q1:ab (Z (.ptr s.size 1)) s4.get=some (I .i64 0):=ai b4 rfl
 have q2:ab (Z (.ptr s.size 2)) s4.get=some (I .i64 g.f):=ai b4 rfl
 have q3:ab (Z (.ptr s.size 3)) s4.get=some (I .i64 g.o):=ai b4 rfl
 have h1:=h.i1
 have h2:=h.i2
 have h3:=h.f0
 have h4:=h.fo
 have h5:=h.o2
 have c0:aF .u64 (I .i64 g.i)=some (I .u64 (g.i.toNat:Nat)):=by
  rw [aV]
  have:=wrap64 g.i.toNat (by omega)
  rw [show ((g.i.toNat:Nat):Int)=g.i by omega] at this
  rw [this,show ((g.i.toNat:Nat):Int)=g.i by omega]
 have c2:aF .u64 (I .i64 g.f)=some (I .u64 (g.f.toNat:Nat)):=by
  rw [aV]
  have:=wrap64 g.f.toNat (by omega)
  rw [show ((g.f.toNat:Nat):Int)=g.f by omega] at this
  rw [this,show ((g.f.toNat:Nat):Int)=g.f by omega]
 have w3:IntKind.i64.wrap (g.o-g.f)=g.o-g.f:=aB _ (by omega) (by omega)
 have c3:aF .u64 (I .i64 (g.o-g.f))=some (I .u64 ((g.o-g.f).toNat:Nat)):=by
  rw [aV]
  have:=wrap64 (g.o-g.f).toNat (by omega)
  rw [show (((g.o-g.f).toNat:Nat):Int)=g.o-g.f by omega] at this
  rw [this,show (((g.o-g.f).toNat:Nat):Int)=g.o-g.f by omega]
 have c1:aF .u64 (I .i64 0)=some (I .u64 0):=rfl
 have L5:=Fr.lit 1 L4.gr.wf (n:=4) (vs:=(bR g).map fun n:Nat=>S.int .u64 (n:Int)) rfl
 obtain ⟨s5,hs5⟩:∃ s5,s5=s4.push (.cells true ((bR g).map fun n:Nat=>S.int .u64 (n:Int))):=⟨_,rfl⟩
 rw [← hs5] at L5
 have MU:aK s4 (aR 4 (aE [.int .u64 0,.int .u64 0,.int .u64 0,.int .u64 0] [(0,1,I .u64 (g.i.toNat:Nat)),(1,1,I .u64 0),(2,1,I .u64 (g.f.toNat:Nat)),(3,1,I .u64 ((g.o-g.f).toNat:Nat))]))=some (Z (.sl s4.size 0 4 (.known 4)),s5):=by rw [hs5];rfl
 have z4:=L4.gr.2.1
 have aar:s4.size=s2.size+1:=by rw [hs4];simp
 have F4:FB s2 s4 (.sl s2.size 0 2 (.known 2)) [84,75]:=L4
 obtain ⟨b6,s6,lp,f6⟩:=EB (T0:=Z (.ptr s.size 0)) (d+1) (Fr.kE F4 L5.gr) L5.rd (fun c hc=>by
  cases hc
  refine ⟨(L5.new s4.size rfl).2,fun e => ?_⟩
  have e':s2.size=s4.size:=Option.some.inj e
  omega) h (by simp)
 rw [← nL] at f6
 have X7:=(f6.gr.get b2 g2.wf)
 have q64:ab (Z (.ptr s.size 4)) s6.get=some (Z x):=ai X7 rfl
 have hx6:=hx1.gr uo (g2.trans f6.gr)
 have V9:∀ c,own x=some c->c<s6.size:=fun c hc=>by have:=uo c hc;have:=(g2.trans f6.gr).2.1;omega
 obtain ⟨y7,s7,e7,f7⟩:=yf (d) f6.gr.wf hx6 V9 h.ok h.vs
 have ZF:=f7.gr.get X7 f6.gr.wf
 have Tm:ab (Z (.ptr s.size 1)) s7.get=some (I .i64 0):=ai ZF rfl
 have m9:=ik h
 have AX:(iQ g).length+(bh g.l).length<=1500:=by unfold bg at m9;rwa [List.length_append] at m9
 obtain ⟨b8,s8,e8,f8,z8,k8⟩:=FB.app (Fr.kE f6 f7.gr) f7.rd (by omega)
 have Vb:FB s2 s8 b8 (bg g):=f8
 have e9:=C3 d Vb.rd (by omega)
 have hS:=j7 (bg g) 1 (by decide)
 obtain ⟨y10,bV,sw,f10⟩:=Ja (d+1) Vb.gr.wf (bN 1 (bg g))
 have hfl:(four (bN 1 (bg g))).length=4:=rfl
 obtain ⟨FG,bK,zU,f11,UW,Y0⟩:=FB.app (Fr.kE Vb f10.gr) f10.rd (by omega)
 have RG:FB s2 bK FG (bW g):=f11
 have ll:=RG.rd.lens
 have tT:=jE h
 have cF:¬ 4000<(((bW g).length:Nat):Int):=by omega
 refine ⟨FG,bK,?_,Fr.from (g1.trans g2) RG⟩
 rw [Gf]
 unfold f121
 have WY:=lp
 clear hS hfl tT m9 AX lp
 generalize R (d+2)=rr at *
 generalize s.size=ss at *
 generalize (((bW g).length:Nat):Int)=SL at *
 generalize ((bN 1 (bg g):Nat):Int)=SB at *
 generalize ((g.i.toNat:Nat):Int)=n0 at *
 generalize ((g.f.toNat:Nat):Int)=n2 at *
 generalize (((g.o-g.f).toNat:Nat):Int)=n3 at *
 simp [nw,q6,e2,Aa,q0,c0,q1,c1,q2,c2,q3,w3,c3,MU,WY,q64,e7,ah,Tm,e8,e9,sw,zU,ll,cF,aQ,bI]
end
section
variable {s t u s0:St} {x y b lx bx:S} {l acc:List eQ} {bs:Bs} {p:Nat} {r:Rr} {g:Sg}
theorem RB.upto (h:RB s x bs) {hi:Nat} (h2:hi<=bs.length):∃ y,ax 1 (Z x) none (some (I .i64 hi)) none=some (Z y)/\RB s y (bs.take hi)/\(own y=none\/own y=own x):=by
 obtain ⟨y,a,b,c⟩:=Rd.upto h h2
 refine ⟨y,a,?_,c⟩
 rw [Nat.mul_one,jJ] at b
 unfold RB
 rwa [List.length_take,Nat.min_eq_left h2]
theorem RB.piece (h:RB s x bs) {lo hi:Nat} (h1:lo<=hi) (h2:hi<=bs.length):∃ y,ax 1 (Z x) (some (I .i64 lo)) (some (I .i64 hi)) none=some (Z y)/\RB s y ((bs.drop lo).take (hi-lo))/\(own y=none\/own y=own x):=by
 obtain ⟨y,a,b,c⟩:=Rd.piece h h1 h2
 refine ⟨y,a,?_,c⟩
 rw [Nat.mul_one,Nat.mul_one,vW,jJ] at b
 unfold RB
 rwa [List.length_take,List.length_drop,Nat.min_eq_left (by omega)]
theorem RB.Bt (h:RB s x bs) {lo:Nat} (h1:lo<=bs.length):∃ y,ax 1 (Z x) (some (I .i64 lo)) none none=some (Z y)/\RB s y (bs.drop lo)/\(own y=none\/own y=own x):=by
 obtain ⟨y,a,b,c⟩:=Rd.Bt h h1
 refine ⟨y,a,?_,c⟩
 rw [Nat.mul_one,vW] at b
 unfold RB
 rwa [List.length_drop]
def eM (g:Sg) (k:Nat):List S:=((bR g).take k).map (fun n:Nat=>S.int .u64 (n:Int))++List.replicate (4-k) (.int .u64 0)
theorem Ey (d:Nat) {T2:T} {A:Nat} (wf:u.wf) (hb:RB u bx (bW g)) (hA:u.get A=some (.cells true (eM g 0))) (hbA:∀ c,own bx=some c->c≠A) (h:jj g) :
 ∃ t,loops (sD (R (d+1)) 8192) 8192 [Z bx,T2,I .i64 ((bg g).length:Nat),Z (.ptr A 0),I .i64 2,I .i64 0] u=some (.exit 0 [Z bx,T2,I .i64 ((bg g).length:Nat),Z (.ptr A 0),I .i64 ((iQ g).length:Nat)],t) ∧
   t.get A=some (.cells true (eM g 4))/\t.size=u.size/\t.wf/\∀ c,c≠A->t.get c=u.get c:=by
 have m9:=ik h
 have tT:=jE h
 obtain ⟨j,τ,lp,rfl,h1,h2,h3,h4⟩:=aW (f:=sD (R (d+1)) 8192)
  (fun q v w=>∃ (k:Nat),q+k=4/\v=[Z bx,T2,I .i64 ((bg g).length:Nat),Z (.ptr A 0),I .i64 (([84,75]++dt ((bR g).take k)).length:Nat),I .i64 (k:Nat)]/\w.get A=some (.cells true (eM g k))/\w.size=u.size/\w.wf/\∀ c,c≠A->w.get c=u.get c)
  (fun j w=>j = .exit 0 [Z bx,T2,I .i64 ((bg g).length:Nat),Z (.ptr A 0),I .i64 ((iQ g).length:Nat)]/\w.get A=some (.cells true (eM g 4))/\w.size=u.size/\w.wf/\∀ c,c≠A->w.get c=u.get c) (by
  rintro q v w ⟨k,hq,rfl,hA,hz,wf,hk⟩
  by_cases Q5:k<4
  · left
    have hlen:(bR g).length=4:=rfl
    obtain ⟨n,hne⟩:∃ n,n=(bR g)[k]'(by omega):=⟨_,rfl⟩
    have hnk:(bR g)[k]? = some n:=by rw [List.getElem?_eq_getElem (by omega),hne]
    have VU:=zf h n (List.mem_of_getElem? hnk)
    have hbw:RB w bx (bW g):=hb.keep fun c hc=>hk c (hbA c hc)
    obtain ⟨y,pc,hy,oy⟩:=RB.upto hbw (hi:=(bg g).length) (by omega)
    have SE:(bW g).take (bg g).length=bg g:=by unfold bW;rw [List.take_left]
    rw [SE] at hy
    have kZ:(bR g).take (k+1)=(bR g).take k++[n]:=by rw [List.take_add_one,hnk];rfl
    have wP:bg g=([84,75]++dt ((bR g).take k))++(aP n++(dt ((bR g).drop (k+1))++bh g.l)):=by
     unfold bg
     rw [nL]
     have h5:bR g=(bR g).take k++(n::(bR g).drop (k+1)):=by
      have:=List.take_append_drop k (bR g)
      rw [List.drop_eq_getElem_cons (by omega:k<(bR g).length),← hne] at this
      exact this.symm
     have h6:dt (bR g)=dt ((bR g).take k)++(aP n++dt ((bR g).drop (k+1))):=by
      conv=>lhs;rw [h5]
      rw [ma];rfl
     rw [h6]
     simp [List.append_assoc]
    obtain ⟨QC,Pt⟩:∃ P,P=[84,75]++dt ((bR g).take k):=⟨_,rfl⟩
    rw [← Pt] at wP
    have hv:=mo (at_:=QC.length) wP rfl (by omega:n<2 ^ 64)
    have hpl:QC.length<=(bg g).length:=by rw [wP,List.length_append];omega
    have e1:=oz d hy (by omega) (at_:=QC.length) (by omega)
    rw [hv] at e1
    simp only [tP] at e1
    have c0:((k:Nat):Int)<4:=by omega
    have c1:¬ 1099511627776<((n:Nat):Int):=by omega
    have wi:IntKind.i64.wrap ((k:Int)+1)=((k+1:Nat):Int):=by rw [aB _ (by omega) (by omega)];omega
    have ia:bj 4 1 (Z (.ptr A 0)) (I .i64 (k:Nat))=some (Z (.ptr A k)):=by
     have h2:nh (I .i64 (k:Nat)) 4=some k:=by
      have:(0:Int)<=(k:Nat)/\((k:Nat):Int)<((4:Nat):Int):=by omega
      simp [nh];omega
     simp [bj,h2]
    have gK:(eM g k).set k (.int .u64 (n:Int))=eM g (k+1):=by
     rcases (by omega:k=0\/k=1\/k=2\/k=3) with rfl | rfl | rfl | rfl <;>
     · have:=Option.some.inj hnk
       rw [← this]
       rfl
    have mv:(eM g k).length=4:=by
     unfold eM
     rw [List.length_append,List.length_map,List.length_take,List.length_replicate,hlen]
     omega
    obtain ⟨w2,Ht⟩:∃ w2,w2=w.set A (.cells true (eM g (k+1))):=⟨_,rfl⟩
    have st:aw 1 (Z (.ptr A k)) (I .u64 (n:Nat)) w=some (tt,w2):=by
     rw [Ht,← gK]
     exact aT hA (by omega)
    have Sq:([84,75]++dt ((bR g).take (k+1))).length=QC.length+(aP n).length:=by
     rw [kZ,ma,← List.append_assoc,← Pt,List.length_append]
     simp [dt]
    refine ⟨[Z bx,T2,I .i64 ((bg g).length:Nat),Z (.ptr A 0),I .i64 (([84,75]++dt ((bR g).take (k+1))).length:Nat),I .i64 ((k+1:Nat):Int)],w2,q-1,?_,by omega,k+1,by omega,rfl,by rw [Ht];exact St.ar _ _ _,by rw [Ht];simpa using hz,by rw [Ht];exact St.wf_set wf (wf.lt hA) _,fun c hc=>by rw [Ht,St.aj _ _ hc];exact hk c hc⟩
    unfold sD
    rw [Sq,← Pt]
    clear gK mv wP hv hne
    generalize R (d+1)=rr at *
    generalize ((QC.length+(aP n).length:Nat):Int)=P2 at *
    generalize ((QC.length:Nat):Int)=P1 at *
    generalize (((bg g).length:Nat):Int)=BL at *
    generalize ((k+1:Nat):Int)=K1 at *
    generalize ((k:Nat):Int)=K0 at *
    generalize ((n:Nat):Int)=NN at *
    simp [c0,pc,e1,ah,c1,ia,st,wi]
  · right
    have hkk:k=4:=by omega
    subst hkk
    have hl4:[84,75]++dt ((bR g).take 4)=iQ g:=by rw [nL];rfl
    rw [hl4]
    refine ⟨_,w,?_,(fun v h=>by cases h),rfl,hA,hz,wf,hk⟩
    unfold sD
    have:((4:Nat):Int)=4:=rfl
    rw [this]
    simp)
  8192 4 _ u ⟨0,by omega,rfl,hA,rfl,wf,fun _ _=>rfl⟩ (by decide)
 exact ⟨τ,lp,h1,h2,h3,h4⟩
end
theorem Bv (a b:Nat) (ha:a<2 ^ 32) (hb:b<2 ^ 32):af .or (I .u32 a) (I .u32 b)=some (I .u32 ((a ||| b:Nat))):=by
 have h:a ||| b<2 ^ 32:=Nat.or_lt_two_pow ha hb
 show some (I .u32 (IntKind.u32.wrap ((BitVec.ofInt 32 a ||| BitVec.ofInt 32 b).toNat:Nat)))=_
 rw [BitVec.toNat_or,jk 32 a ha,jk 32 b hb,wrap32,Nat.mod_eq_of_lt (by omega)]
theorem xz (a b:Nat) (h:a*2 ^ b<2 ^ 32) (hb:b<32):af .shl (I .u32 a) (I .u64 b)=some (I .u32 ((a*2 ^ b:Nat))):=by
 have e:min b 32=b:=by omega
 have h0:¬ ((b:Int)<0):=by omega
 have e2:(a:Int)*2 ^ b=((a*2 ^ b:Nat):Int):=by push_cast;rfl
 simp only [af,mO,if_neg h0,Int.toNat_natCast,IntKind.bits,e,e2,wrap32]
 rw [Nat.mod_eq_of_lt (by omega)]
section
variable {s t u s0:St} {x y b lx bx:S} {l acc:List eQ} {bs:Bs} {p:Nat} {r:Rr} {g:Sg}
theorem Qj {x y:S} {n:Nat} (h:own y=none\/own y=own x) (hx:∀ c,own x=some c->c<n):∀ c,own y=some c->c<n:=fun c hc=>by
 rcases h with h | h
 · rw [h] at hc;cases hc
 · rw [h] at hc;exact hx c hc
theorem JZ (wf:s.wf):∃ s1,aK s (ba [.int .i64 0,.int .i64 0,.int .i64 0,.int .i64 0,.az,.az])=some (Z (.ptr s.size 0),s1)/\Gr s s1/\s1.get s.size=some (.cells true [.int .i64 0,.int .i64 0,.int .i64 0,.int .i64 0,.az,.az])/\s1.size=s.size+1 :=
 ⟨_,rfl,Gr.push wf _,St.aq _ _,by simp⟩
set_option maxHeartbeats 8000000 in
theorem I9 (d:Nat) (wf:s.wf) (hb:RB s bx (bW g)) (xQ:∀ c,own bx=some c->c<s.size) (h:jj g):∃ y t,R (d+5) 81 [Z bx] s=some (.eD [.agg (cG g y),.s (.int .i64 0)],t)/\mq s t y g.l:=by
 have m9:=ik h
 have tT:=jE h
 have NF:(iQ g).length<=(bg g).length:=by unfold bg;rw [List.length_append];omega
 have hh2:2<=(iQ g).length:=by rw [nL,List.length_append];simp
 obtain ⟨s1,cX,g1,b1,z1⟩:=JZ wf
 have rb:∀ {v:St},Gr s v->RB v bx (bW g):=fun gg=>Rd.gr hb xQ gg
 have ll:=hb.lens
 have w1:IntKind.i64.wrap ((((bW g).length:Nat):Int)-4)=(((bg g).length:Nat):Int):=by rw [aB _ (by omega) (by omega)];omega
 have c1:¬ (((bg g).length:Nat):Int)<2:=by omega
 have Yy:(bW g)[0]? = some 84:=rfl
 have AY:(bW g)[1]? = some 75:=rfl
 obtain ⟨p0,i0,l0⟩:=RB.Dl (rb g1) (n:=0) (j:=0) rfl Yy
 obtain ⟨p1,i1,l1⟩:=RB.Dl (rb g1) (n:=1) (j:=1) rfl AY
 have NX:ab p0 s1.get=some (I .u8 84):=l0
 have l1':ab p1 s1.get=some (I .u8 75):=l1
 obtain ⟨s5,hs5⟩:∃ s5,s5=s1.push (.cells true [.int .u64 0,.int .u64 0,.int .u64 0,.int .u64 0]):=⟨_,rfl⟩
 have MU:aK s1 (ba [.int .u64 0,.int .u64 0,.int .u64 0,.int .u64 0])=some (Z (.ptr s1.size 0),s5):=by rw [hs5];rfl
 have g5:Gr s1 s5:=by rw [hs5];exact Gr.push g1.wf _
 have b5:s5.get s1.size=some (.cells true (eM g 0)):=by rw [hs5];exact St.aq _ _
 have z5:s5.size=s1.size+1:=by rw [hs5];simp
 obtain ⟨s6,lp,b6,z6,TD,k6⟩:=Ey (T2:=Z (.ptr s.size 0)) (d+3) g5.wf (rb (g1.trans g5)) b5 (fun c hc=>by have:=xQ c hc;omega) h
 have g6:Gr s s6:=⟨TD,by omega,fun c hc=>by rw [k6 c (by omega),(g1.trans g5).2.2 c hc]⟩
 have t6:s6.get s.size=some (.cells true [.int .i64 0,.int .i64 0,.int .i64 0,.int .i64 0,.az,.az]):=by rw [k6 _ (by omega)];exact g5.get b1 g1.wf
 have h1:=h.i1
 have h2:=h.i2
 have h3:=h.f0
 have h4:=h.fo
 have h5:=h.o2
 have a0:bj 4 1 (Z (.ptr s1.size 0)) (I .i64 0)=some (Z (.ptr s1.size 0)):=rfl
 have a1:bj 4 1 (Z (.ptr s1.size 0)) (I .i64 1)=some (Z (.ptr s1.size 1)):=rfl
 have a2:bj 4 1 (Z (.ptr s1.size 0)) (I .i64 2)=some (Z (.ptr s1.size 2)):=rfl
 have a3:bj 4 1 (Z (.ptr s1.size 0)) (I .i64 3)=some (Z (.ptr s1.size 3)):=rfl
 have n0:ab (Z (.ptr s1.size 0)) s6.get=some (I .u64 g.i):=by
  have:ab (Z (.ptr s1.size 0)) s6.get=some (I .u64 (g.i.toNat:Nat)):=ai b6 rfl
  rwa [show ((g.i.toNat:Nat):Int)=g.i by omega] at this
 have n1:ab (Z (.ptr s1.size 1)) s6.get=some (I .u64 0):=ai b6 rfl
 have n2:ab (Z (.ptr s1.size 2)) s6.get=some (I .u64 g.f):=by
  have:ab (Z (.ptr s1.size 2)) s6.get=some (I .u64 (g.f.toNat:Nat)):=ai b6 rfl
  rwa [show ((g.f.toNat:Nat):Int)=g.f by omega] at this
 have n3:ab (Z (.ptr s1.size 3)) s6.get=some (I .u64 (g.o-g.f)):=by
  have:ab (Z (.ptr s1.size 3)) s6.get=some (I .u64 ((g.o-g.f).toNat:Nat)):=ai b6 rfl
  rwa [show (((g.o-g.f).toNat:Nat):Int)=g.o-g.f by omega] at this
 have v0:IntKind.i64.wrap g.i=g.i:=aB _ (by omega) (by omega)
 have v2:IntKind.i64.wrap g.f=g.f:=aB _ (by omega) (by omega)
 have v3:IntKind.u64.wrap (g.f+(g.o-g.f))=g.o:=by
  rw [show g.f+(g.o-g.f)=((g.o.toNat:Nat):Int) by omega,wrap64 _ (by omega)];omega
 have v4:IntKind.i64.wrap g.o=g.o:=aB _ (by omega) (by omega)
 have v1:IntKind.i64.wrap 0=0:=rfl
 have ag:aU (aE [.int .i64 0,.int .i64 0,.int .i64 0,.int .i64 0,.az,.az] [(0,1,I .i64 g.i),(1,1,I .i64 0),(2,1,I .i64 g.f),(3,1,I .i64 g.o)])=some (AG g .az):=rfl
 obtain ⟨s7,CO,g7,b7,z7⟩:=JZ TD
 obtain ⟨s8,zV⟩:∃ s8,s8=s7.set s6.size (.cells true (cG g .az)):=⟨_,rfl⟩
 have Af:aw 6 (Z (.ptr s6.size 0)) (AG g .az) s7=some (tt,s8):=by rw [zV];exact rE b7 rfl
 have b8:s8.get s6.size=some (.cells true (cG g .az)):=by rw [zV];exact St.ar _ _ _
 have g8:Gr s6 s8:=by
  rw [zV]
  exact ⟨St.wf_set g7.wf (g7.wf.lt b7) _,by simp;omega,fun c hc=>by rw [St.aj _ _ (by omega)];exact g7.2.2 c hc⟩
 have z8:s8.size=s7.size:=by rw [zV];simp
 have q81:ab (Z (.ptr s6.size 1)) s8.get=some (I .i64 0):=ai b8 rfl
 obtain ⟨yp,pc,hy,oy⟩:=RB.piece (rb (g6.trans g8)) NF (by omega)
 have hblk:((bW g).drop (iQ g).length).take ((bg g).length-(iQ g).length)=bh g.l:=by
  have e1:bW g=iQ g++(bh g.l++four (bN 1 (bg g))):=by unfold bW bg;rw [List.append_assoc]
  have e2:(bg g).length-(iQ g).length=(bh g.l).length:=by unfold bg;rw [List.length_append];omega
  rw [e1,List.drop_left,e2,List.take_left]
 rw [hblk] at hy
 have Pz:=rX g.l
 have hf:=h.Co
 have aas:=(g6.trans g8).2.1
 obtain ⟨y9,s9,e9,g9,F9⟩:=FI d (g8).wf hy (Qj oy fun c hc=>by have:=xQ c hc;omega) (by omega)
 rw [AQ h.ok h.vs] at e9 F9
 have f9:=F9 _ rfl
 simp only [BM] at e9
 have b9:=g9.get b8 g8.wf
 obtain ⟨bV,kX⟩:∃ bV,bV=s9.set s6.size (.cells true (cG g y9)):=⟨_,rfl⟩
 have EC:aw 1 (Z (.ptr s6.size 4)) (Z y9) s9=some (tt,bV):=by rw [kX];exact aT b9 (by simp [cG])
 have QH:bV.get s6.size=some (.cells true (cG g y9)):=by rw [kX];exact St.ar _ _ _
 have EM:bV.wf:=by rw [kX];exact St.wf_set g9.wf (g9.wf.lt b9) _
 have XQ:bV.size=s9.size:=by rw [kX];simp
 have JG:∀ c,c≠s6.size->bV.get c=s9.get c:=fun c hc=>by rw [kX];exact St.aj _ _ hc
 have Uv:∀ c,own y9=some c->s8.size<=c/\c<s9.size:=f9.new
 have pH:oG bV y9 g.l:=f9.rd.keep fun c hc=>JG c (by have:=(Uv c hc).1;omega)
 have NY:=px (m:=bV.get) QH
 obtain ⟨y11,bK,zU,f11⟩:=Jc (d+1) EM h pH (fun c hc=>by have:=(Uv c hc).2;omega)
 have g10:Gr s bV:=⟨EM,by have:=g9.2.1;omega,fun c hc=>by rw [JG c (by omega),g9.2.2 c (by omega),(g6.trans g8).2.2 c hc]⟩
 have Jw:=wh (d+3) f11.rd (rb (g10.trans f11.gr))
 rw [decide_eq_true rfl] at Jw
 have FG:=f11.gr.get QH EM
 have S3:=px (m:=bK.get) FG
 have t11:bK.get s.size=some (.cells true [.int .i64 0,.int .i64 0,.int .i64 0,.int .i64 0,.az,.az]):=by
  rw [f11.gr.2.2 _ (by have:=g9.2.1;omega),JG _ (by omega),g9.2.2 _ (by omega),g8.2.2 _ (by omega)];exact t6
 obtain ⟨cd,sP⟩:∃ cd,cd=bK.set s.size (.cells true (cG g y9)):=⟨_,rfl⟩
 have xC:aw 6 (Z (.ptr s.size 0)) (AG g y9) bK=some (tt,cd):=by rw [sP];exact rE t11 rfl
 have Ol:cd.get s.size=some (.cells true (cG g y9)):=by rw [sP];exact St.ar _ _ _
 have WQ:=px (m:=cd.get) Ol
 have g11:=g10.trans f11.gr
 refine ⟨y9,cd,?_,⟨?_,f9.ow.keep fun c hc => ?_,fun c hc => ?_⟩⟩
 · rw [LP]
   unfold f81
   simp only [Nat.add_assoc,Nat.reduceAdd] at lp e9 zU Jw
   clear hblk h1 h2 h3 h4 h5 m9 tT NF hh2 Pz Yy AY
   generalize R (d+4)=rr at *
   generalize (((bW g).length:Nat):Int)=SL at *
   generalize (((bg g).length:Nat):Int)=BL at *
   generalize (((iQ g).length:Nat):Int)=HL at *
   generalize s1.size=UU at *
   generalize s6.size=z6' at *
   generalize s.size=z0' at *
   simp [cX,ll,w1,c1,i0,NX,i1,l1',MU,lp,a0,n0,v0,a1,n1,v1,a2,n2,v2,a3,n3,v3,v4,ag,CO,Af,q81,pc,e9,ah,EC,NY,zU,Jw,S3,xC,WQ,rC,rT,aQ,bI,kF]
 · rw [sP]
   exact ⟨St.wf_set g11.wf (g11.wf.lt t11) _,by simpa using g11.2.1,fun c hc=>by rw [St.aj _ _ (by omega)];exact g11.2.2 c hc⟩
 · have:=Uv c hc
   rw [sP,St.aj _ _ (by omega),f11.gr.2.2 c (by omega),JG c (by omega)]
 · have:=Uv c hc
   have:=f11.gr.2.1
   have Jw:cd.size=bK.size:=by rw [sP];simp
   omega
end
def gZ (g:Sg):dv:=⟨g.i,0,g.f,g.o,(bN 1 (bg g):Nat)⟩
theorem DH {n:Nat} (h:n<2 ^ 32):((n%256 ||| n / 256%256*2 ^ 8) ||| n / 65536%256*2 ^ 16) ||| n / 16777216%256*2 ^ 24=n:=by
 rw [tg _ _ 8 (by omega),tg _ _ 16 (by omega),tg _ _ 24 (by omega)]
 omega
section
variable {s t u s0:St} {x y b lx bx:S} {l acc:List eQ} {bs:Bs} {p:Nat} {r:Rr} {g:Sg}
theorem CK {i:Nat} {w:Bool} {a:dv} {m:Mem} (h:m i=some (.cells w (cI a))):aG 5 (Z (.ptr i 0)) m=some (AI a):=by
 simp [aG,h,cI]
theorem BR {i:Nat} {vs:List S} {a:dv} (h:s.get i=some (.cells true vs)) (hv:vs.length=5):aw 5 (Z (.ptr i 0)) (AI a) s=some (tt,s.set i (.cells true (cI a))):=by
 have hb:(V.agg (cI a)).cells.length=5/\0+5<=vs.length:=⟨rfl,by omega⟩
 simp only [aw,h,if_pos hb]
 rw [show (V.agg (cI a)).cells=cI a from rfl,ez (by rw [hv];rfl)]
theorem On (wf:s.wf):∃ s1,aK s (ba [.int .i64 0,.int .i64 0,.int .i64 0,.int .i64 0,.int .u32 0])=some (Z (.ptr s.size 0),s1)/\Gr s s1/\s1.get s.size=some (.cells true [.int .i64 0,.int .i64 0,.int .i64 0,.int .i64 0,.int .u32 0])/\s1.size=s.size+1 :=
 ⟨_,rfl,Gr.push wf _,St.aq _ _,by simp⟩
set_option maxHeartbeats 4000000 in
theorem vI (d:Nat) (wf:s.wf) (hb:RB s bx (bW g)) (xQ:∀ c,own bx=some c->c<s.size) (h:jj g):∃ t,R (d+6) 77 [Z bx] s=some (.eD [.agg (cI (gZ g)),.s (.int .i64 0)],t)/\Gr s t:=by
 have m9:=ik h
 have tT:=jE h
 obtain ⟨s1,cX,g1,b1,z1⟩:=On wf
 have rb:∀ {v:St},Gr s v->RB v bx (bW g):=fun gg=>Rd.gr hb xQ gg
 obtain ⟨y2,s2,e2,f2⟩:=I9 d g1.wf (rb g1) (fun c hc=>by have:=xQ c hc;omega) h
 obtain ⟨s3,Br,g3,b3,z3⟩:=JZ f2.gr.wf
 obtain ⟨s4,hs4⟩:∃ s4,s4=s3.set s2.size (.cells true (cG g y2)):=⟨_,rfl⟩
 have JK:aw 6 (Z (.ptr s2.size 0)) (AG g y2) s3=some (tt,s4):=by rw [hs4];exact rE b3 rfl
 have b4:s4.get s2.size=some (.cells true (cG g y2)):=by rw [hs4];exact St.ar _ _ _
 have z12:=f2.gr.2.1
 have k4:∀ c,c<s2.size->s4.get c=s2.get c:=fun c hc=>by rw [hs4,St.aj _ _ (by omega)];exact g3.2.2 c hc
 have Nt:s4.wf:=by rw [hs4];exact St.wf_set g3.wf (g3.wf.lt b3) _
 have z4:s4.size=s3.size:=by rw [hs4];simp
 have g4:Gr s s4:=⟨Nt,by omega,fun c hc=>by rw [k4 c (by omega),f2.gr.2.2 c (by omega),g1.2.2 c hc]⟩
 have t4:s4.get s.size=some (.cells true [.int .i64 0,.int .i64 0,.int .i64 0,.int .i64 0,.int .u32 0]):=by rw [k4 _ (by omega),f2.gr.2.2 _ (by omega)];exact b1
 have ll:=hb.lens
 have w1:IntKind.i64.wrap ((((bW g).length:Nat):Int)-4)=(((bg g).length:Nat):Int):=by rw [aB _ (by omega) (by omega)];omega
 obtain ⟨yp,pc,hy,oy⟩:=RB.Bt (rb g4) (lo:=(bg g).length) (by omega)
 have mE:(bW g).drop (bg g).length=four (bN 1 (bg g)):=by unfold bW;rw [List.drop_left]
 rw [mE] at hy
 obtain ⟨S,hS⟩:∃ S,S=bN 1 (bg g):=⟨_,rfl⟩
 have hSl:S<4294967291:=by rw [hS];exact j7 (bg g) 1 (by decide)
 rw [← hS] at hy
 obtain ⟨p0,i0,l0⟩:=RB.Dl hy (n:=0) (j:=0) (c:=UInt8.ofNat S) rfl rfl
 obtain ⟨p1,i1,l1⟩:=RB.Dl hy (n:=1) (j:=1) (c:=UInt8.ofNat (S / 256)) rfl rfl
 obtain ⟨p2,i2,l2⟩:=RB.Dl hy (n:=2) (j:=2) (c:=UInt8.ofNat (S / 65536)) rfl rfl
 obtain ⟨p3,i3,l3⟩:=RB.Dl hy (n:=3) (j:=3) (c:=UInt8.ofNat (S / 16777216)) rfl rfl
 rw [dU] at l0 l1 l2 l3
 have q0:ab (Z (.ptr s2.size 0)) s4.get=some (I .i64 g.i):=ai b4 rfl
 have q1:ab (Z (.ptr s2.size 1)) s4.get=some (I .i64 0):=ai b4 rfl
 have q2:ab (Z (.ptr s2.size 2)) s4.get=some (I .i64 g.f):=ai b4 rfl
 have q3:ab (Z (.ptr s2.size 3)) s4.get=some (I .i64 g.o):=ai b4 rfl
 have key:=DH (n:=S) (by omega)
 have k0:=Nat.mod_lt S (show 0<256 by decide)
 have k1:=Nat.mod_lt (S / 256) (show 0<256 by decide)
 have k2:=Nat.mod_lt (S / 65536) (show 0<256 by decide)
 have k3:=Nat.mod_lt (S / 16777216) (show 0<256 by decide)
 generalize S%256=a0 at *
 generalize S / 256%256=a1 at *
 generalize S / 65536%256=a2 at *
 generalize S / 16777216%256=a3 at *
 have c0:aF .u32 (I .u8 (a0:Nat))=some (I .u32 (a0:Nat)):=by rw [aV,wrap32,Nat.mod_eq_of_lt (by omega)]
 have c1:aF .u32 (I .u8 (a1:Nat))=some (I .u32 (a1:Nat)):=by rw [aV,wrap32,Nat.mod_eq_of_lt (by omega)]
 have c2:aF .u32 (I .u8 (a2:Nat))=some (I .u32 (a2:Nat)):=by rw [aV,wrap32,Nat.mod_eq_of_lt (by omega)]
 have c3:aF .u32 (I .u8 (a3:Nat))=some (I .u32 (a3:Nat)):=by rw [aV,wrap32,Nat.mod_eq_of_lt (by omega)]
 obtain ⟨e1,Uh⟩:∃ e,e=a1*2 ^ 8:=⟨_,rfl⟩
 obtain ⟨Jx,Ui⟩:∃ e,e=a2*2 ^ 16:=⟨_,rfl⟩
 obtain ⟨e3,VA⟩:∃ e,e=a3*2 ^ 24:=⟨_,rfl⟩
 have h1:af .shl (I .u32 (a1:Nat)) (I .u64 8)=some (I .u32 (e1:Nat)):=by rw [Uh];exact xz _ 8 (by omega) (by decide)
 have h2:af .shl (I .u32 (a2:Nat)) (I .u64 16)=some (I .u32 (Jx:Nat)):=by rw [Ui];exact xz _ 16 (by omega) (by decide)
 have h3:af .shl (I .u32 (a3:Nat)) (I .u64 24)=some (I .u32 (e3:Nat)):=by rw [VA];exact xz _ 24 (by omega) (by decide)
 rw [← Uh,← Ui,← VA] at key
 have r1:=Bv a0 e1 (by omega) (by omega)
 have m1:a0 ||| e1<2 ^ 32:=Nat.or_lt_two_pow (by omega) (by omega)
 obtain ⟨o1,Ra⟩:∃ o,o=a0 ||| e1:=⟨_,rfl⟩
 rw [← Ra] at r1 m1 key
 have r2:=Bv o1 Jx m1 (by omega)
 have m2:o1 ||| Jx<2 ^ 32:=Nat.or_lt_two_pow m1 (by omega)
 obtain ⟨o2,Rb⟩:∃ o,o=o1 ||| Jx:=⟨_,rfl⟩
 rw [← Rb] at r2 m2 key
 have r3:=Bv o2 e3 m2 (by omega)
 rw [key] at r3
 have ag:aU (aE [.int .i64 0,.int .i64 0,.int .i64 0,.int .i64 0,.int .u32 0] [(0,1,I .i64 g.i),(1,1,I .i64 0),(2,1,I .i64 g.f),(3,1,I .i64 g.o),(4,1,I .u32 (S:Nat))])=some (AI (gZ g)):=by
  rw [hS];rfl
 obtain ⟨s5,hs5⟩:∃ s5,s5=s4.set s.size (.cells true (cI (gZ g))):=⟨_,rfl⟩
 have Ro:aw 5 (Z (.ptr s.size 0)) (AI (gZ g)) s4=some (tt,s5):=by rw [hs5];exact BR t4 rfl
 have l5:=CK (m:=s5.get) (by rw [hs5];exact St.ar _ _ _:s5.get s.size=some (.cells true (cI (gZ g))))
 refine ⟨s5,?_,?_⟩
 · rw [LJ]
   unfold f77
   clear hSl m1 m2 mE m9 tT key Ra Rb Uh Ui VA k0 k1 k2 k3
   generalize R (d+5)=rr at *
   generalize ((o2:Nat):Int)=o2' at *
   generalize ((o1:Nat):Int)=o1' at *
   generalize ((e1:Nat):Int)=TZ at *
   generalize ((Jx:Nat):Int)=ZN at *
   generalize ((e3:Nat):Int)=e3' at *
   generalize ((a0:Nat):Int)=a0' at *
   generalize ((a1:Nat):Int)=a1' at *
   generalize ((a2:Nat):Int)=a2' at *
   generalize ((a3:Nat):Int)=a3' at *
   generalize ((S:Nat):Int)=SS at *
   generalize (((bW g).length:Nat):Int)=SL at *
   generalize (((bg g).length:Nat):Int)=BL at *
   generalize s2.size=z2' at *
   generalize s.size=z0' at *
   simp [cX,e2,ah,Br,JK,ll,w1,pc,q0,q1,q2,q3,i0,l0,c0,i1,l1,c1,h1,r1,i2,l2,c2,h2,r2,i3,l3,c3,h3,r3,ag,Ro,l5,rC,rT,aQ,bI]
 · rw [hs5]
   exact ⟨St.wf_set Nt (Nt.lt t4) _,by simpa using g4.2.1,fun c hc=>by rw [St.aj _ _ (by omega)];exact g4.2.2 c hc⟩
end
def gq (g:Sg):bA:=⟨1,0,g.i,0,g.f,g.o,(bN 1 (bg g):Nat),[]⟩
theorem JS (g:Sg):rK (gq g):=⟨by simp [gq],by have:=j7 (bg g) 1 (by decide);simp [gq];omega⟩
structure K7 (ρ ρ':Nat->Nat) (s t:St):Prop where
 sz:s.size<=t.size
 ro:∀ c,c<s.size->ρ' c=ρ c
 kp:∀ c,c<s.size->7<=ρ c->t.get c=s.get c
theorem K7.trans {ρ ρ' ρ'':Nat->Nat} {s t u:St} (h:K7 ρ ρ' s t) (k:K7 ρ' ρ'' t u):K7 ρ ρ'' s u :=
 ⟨Nat.le_trans h.sz k.sz,fun c hc=>by rw [k.ro c (Nat.lt_of_lt_of_le hc h.sz),h.ro c hc],fun c hc hr=>by rw [k.kp c (Nat.lt_of_lt_of_le hc h.sz) (by rw [h.ro c hc];exact hr),h.kp c hc hr]⟩
theorem Kp.k7 {ρ ρ':Nat->Nat} {s t:St} (h:Kp ρ ρ' s t):K7 ρ ρ' s t:=⟨h.sz,h.ro,fun c hc hr=>h.kp c hc (by omega)⟩
theorem Yk {ρ:Nat->Nat} {s t:St} (h:Gr s t):K7 ρ ρ s t:=⟨h.2.1,fun _ _=>rfl,fun c hc _=>h.2.2 c hc⟩
def uc (ρ:Nat->Nat) (n:Nat):Nat->Nat:=fun c=>if c<n then ρ c else 9
theorem er {ρ:Nat->Nat} {n c:Nat} (h:c<n):uc ρ n c=ρ c:=if_pos h
theorem qQ {ρ:Nat->Nat} {n c:Nat} (h:n<=c):uc ρ n c=9:=if_neg (by omega)
theorem Vg {ρ:Nat->Nat} {s t:St} (h:Gr s t):K7 ρ (uc ρ s.size) s t:=⟨h.2.1,fun _ hc=>er hc,fun c hc _=>h.2.2 c hc⟩
section
variable {ρ ρ':Nat->Nat} {s t:St} {D:oH} {room:Int} {fs fs':List Fl} {l:List bA} {q:FoS} {sure:Nat} {i m:Nat} {e:bA} {n:Bs} {y bx:S} {xs:List S} {g:Sg}
theorem aY.k9 (h:aY ρ s D room fs l q sure) (g:Gr s t):aY (uc ρ s.size) t D room fs l q sure:=(h.XC fun c hc=>er hc).gr g
inductive Fg (ρ:Nat->Nat) (D:oH) (room:Int) (fs:List Fl) (l:List bA) (q:FoS) (sure:Nat) (n:Bs) (g:Sg) (s t:St):Int->Prop
 | no {ρ' fs' c}:aY ρ' t D room fs' l q sure->cu fs'=cu fs->K7 ρ ρ' s t->c≠0->(c=bz q (gq g)\/c=8/\bz q (gq g)=0/\(room<(dx (cu fs):Int)+(bW g).length\/room<(dx (cu fs):Int)+(bW g).length+(aX (bp (gq g))).length))->Fg ρ D room fs l q sure n g s t c
 | ok {ρ' D' fs'}:aY ρ' t D' room fs' (l++[gq g]) (cT q (gq g)) sure->kg fs' (l++[gq g]) sure->cu fs'=dW (aX (bp (gq g))) (cu fs++[⟨n,U (bW g),(bW g).length⟩])->K7 ρ ρ' s t->(D'.p=D.p/\D'.i=D.i/\D'.m=D.m) →
  bz q (gq g)=0->(dx (cu fs):Int)+(bW g).length+(aX (bp (gq g))).length<=room->Fg ρ D room fs l q sure n g s t 0
theorem IW {n:Bs} {vs:List FV} {v:FV} (h:fS n vs=false) (hv:v.nm=n):tD n (vs++[v])=vs:=by
 unfold tD
 rw [List.filter_append,List.filter_eq_self.2 fun w hw=>by simpa using dP.1 h w hw]
 simp [hv]
theorem EF {n:Bs} {vs:List FV} {x:List S} {k:Nat} (h:fS n vs=false):gE n (vs++[⟨n,x,k⟩])=vs++[⟨n,x,x.length⟩]:=by
 unfold gE fL
 rw [List.map_append]
 have:=ou (g:=fun v=>⟨v.nm,v.l,v.l.length⟩) (dP.1 h)
 unfold fL at this
 rw [this]
 simp
theorem tO (a b:List FV):dx (a++b)=dx a+dx b:=by simp [dx]
theorem gm (fs:List Fl):(cu fs).length=fs.length:=by simp [cu]
set_option maxHeartbeats 8000000 in
theorem install_run (d:Nat) (h:aY ρ s D room fs l q sure) (yJ:kg fs l sure) (hn:tY fs) (hfl:fs.length<=98) (hg:jj g) {k:Nat} (hk:g.i=(k:Int)) (uj:1<=k) (hk2:k<=64) (hb:RB s bx (bW g)) (xQ:∀ c,own bx=some c->c<s.size/\7<=ρ c)
 (hno:bz q (gq g)=0->fS (bo k) (cu fs)=false) (hsz:(aD l).length<=40000) (hl:l.length<2000) :
 ∃ t c,R (d+14) 22 [Z (.ptr D.p 0),Z bx,I .i64 0] s=some (I .i64 c,t)/\Fg ρ D room fs l q sure (bo k) g s t c:=by
 have m9:=ik hg
 have tT:=jE hg
 have Ct:(U (bW g)).length=(bW g).length:=by simp
 have np:iC .p (Z (.ptr D.p 0)) (Z .bU)=some (B false):=rfl
 obtain ⟨s1,e1,g1⟩:=vI (d+7) h.qA hb (fun c hc=>(xQ c hc).1) hg
 obtain ⟨s2,zZ,g2,b2,z2⟩:=On g1.wf
 obtain ⟨s3,mw⟩:∃ s3,s3=s2.set s1.size (.cells true (cI (gZ g))):=⟨_,rfl⟩
 have Jd:aw 5 (Z (.ptr s1.size 0)) (AI (gZ g)) s2=some (tt,s3):=by rw [mw];exact BR b2 rfl
 have b3:s3.get s1.size=some (.cells true (cI (gZ g))):=by rw [mw];exact St.ar _ _ _
 have z3:s3.size=s2.size:=by rw [mw];simp
 have g3:Gr s1 s3:=by
  rw [mw]
  exact ⟨St.wf_set g2.wf (g2.wf.lt b2) _,by simp;omega,fun c hc=>by rw [St.aj _ _ (by omega)];exact g2.2.2 c hc⟩
 have i0:ab (Z (.ptr s1.size 0)) s3.get=some (I .i64 g.i):=ai b3 rfl
 have i1:ab (Z (.ptr s1.size 1)) s3.get=some (I .i64 0):=ai b3 rfl
 have i2:ab (Z (.ptr s1.size 2)) s3.get=some (I .i64 g.f):=ai b3 rfl
 have i3:ab (Z (.ptr s1.size 3)) s3.get=some (I .i64 g.o):=ai b3 rfl
 have i4:ab (Z (.ptr s1.size 4)) s3.get=some (I .u32 (bN 1 (bg g):Nat)):=ai b3 rfl
 have ag:aU (aE [.int .i64 0,.int .i64 0,.int .i64 0,.int .i64 0,.int .i64 0,.int .i64 0,.int .u32 0,.str []] [(0,1,(I .i64 1)),(1,1,I .i64 0),(2,1,I .i64 g.i),(3,1,I .i64 0),(4,1,I .i64 g.f),(5,1,I .i64 g.o),(6,1,I .u32 (bN 1 (bg g):Nat))])=some (AE (gq g)):=rfl
 obtain ⟨e,he⟩:∃ e,e=gq g:=⟨_,rfl⟩
 rw [← he] at ag
 obtain ⟨s4,hs4⟩:∃ s4,s4=s3.push (.cells true (cE bC)):=⟨_,rfl⟩
 have Aa:aK s3 (ba [.int .i64 0,.int .i64 0,.int .i64 0,.int .i64 0,.int .i64 0,.int .i64 0,.int .u32 0,.str []])=some (Z (.ptr s3.size 0),s4):=by rw [hs4];rfl
 have g4:Gr s3 s4:=by rw [hs4];exact Gr.push g3.wf _
 have b4:s4.get s3.size=some (.cells true (cE bC)):=by rw [hs4];exact St.aq _ _
 have z4:s4.size=s3.size+1:=by rw [hs4];simp
 obtain ⟨s5,hs5⟩:∃ s5,s5=s4.set s3.size (.cells true (cE e)):=⟨_,rfl⟩
 have Ro:aw 8 (Z (.ptr s3.size 0)) (AE e) s4=some (tt,s5):=by rw [hs5];exact j6 b4 rfl
 have b5:s5.get s3.size=some (.cells true (cE e)):=by rw [hs5];exact St.ar _ _ _
 have g5:Gr s3 s5:=by
  rw [hs5]
  exact ⟨St.wf_set g4.wf (g4.wf.lt b4) _,by simp;omega,fun c hc=>by rw [St.aj _ _ (by omega)];exact g4.2.2 c hc⟩
 have l5:=dQ (g:=s5.get) b5
 have g15:=(g1.trans g3).trans g5
 obtain ⟨s6,e6,g6⟩:=FF (d+3) (h.gr g15) hl e
 have g16:=g15.trans g6
 have ZC:s6.get s1.size=some (.cells true (cI (gZ g))):=(g5.trans g6).get b3 g3.wf
 have X6:=g6.get b5 g5.wf
 have l56:=dQ (g:=s6.get) X6
 have i6:ab (Z (.ptr s1.size 0)) s6.get=some (I .i64 (k:Nat)):=by rw [← hk];exact ai ZC rfl
 have e7:=zb (s:=s6) (d+12) uj hk2
 have h6:=h.k9 g16
 have q6:ab (Z (.ptr D.p 0)) s6.get=some (Z (.ptr D.i 0)):=ai h6.st rfl
 by_cases ha:bz q e=0
 rotate_left
 · refine ⟨s6,bz q e,?_,.no h6 rfl (Vg g16) ha (.inl (by rw [he]))⟩
   rw [qW]
   unfold f22
   simp only [Nat.add_assoc,Nat.reduceAdd] at e1 e6
   generalize R (d+13)=rr at *
   generalize bz q e=A at *
   generalize ((bN 1 (bg g):Nat):Int)=SB at *
   generalize s1.size=UU at *
   generalize s3.size=XR at *
   simp [np,e1,ah,zZ,Jd,i0,i1,i2,i3,i4,ag,Aa,Ro,l5,e6,ha]
 rw [ha] at e6
 have Mh:=hno (by rw [← he];exact ha)
 have hm:bT e=true:=gv ha
 have hw:rK e:=by rw [he];exact JS g
 have NU:=iE (e:=e) (b:=aX (bp e)) (by unfold eB;rw [if_pos hm])
 have Ia:=sZ uj hk2
 have e8:=nu (d+10) h6.dk (iY Mh) Ia
 have QT:xK s6 bx (U (bW g)):=by
  have:RB s6 bx (bW g):=Rd.gr hb (fun c hc=>(xQ c hc).1) g16
  unfold xK
  rw [Ct]
  exact this
 have Sk:∀ c,own bx=some c->c<s6.size/\uc ρ s.size c≠0:=fun c hc=>by
  have:=xQ c hc
  refine ⟨by have:=g16.2.1;omega,?_⟩
  rw [er this.1];omega
 by_cases PD:(dx (cu fs):Int)+(bW g).length<=room
 rotate_left
 · obtain ⟨s9,e9,g9⟩:=uV (d+10) h6 hn Ia QT (fun c hc=>(Sk c hc).1) (by rw [Ct];omega) (by rw [Ct];omega)
   refine ⟨s9,8,?_,.no (h6.gr g9) rfl ((Vg g16).trans (Yk g9)) (by decide) (.inr ⟨rfl,by rw [← he];exact ha,.inl (by omega)⟩)⟩
   rw [qW]
   unfold f22
   simp only [Nat.add_assoc,Nat.reduceAdd] at e1 e6 e7 e8 e9
   generalize R (d+13)=rr at *
   generalize ((bN 1 (bg g):Nat):Int)=SB at *
   generalize s1.size=UU at *
   generalize s3.size=XR at *
   generalize ((k:Nat):Int)=KK at *
   simp [np,e1,ah,zZ,Jd,i0,i1,i2,i3,i4,ag,Aa,Ro,l5,e6,i6,e7,q6,e8,e9]
 obtain ⟨XV,Vf,s9,e9,h9,v9,WO⟩:=Hk (d+10) h6 hn Ia Mh QT Sk (by rw [Ct];exact PD) (by rw [Ct];omega)
 have q9:ab (Z (.ptr D.p 0)) s9.get=some (Z (.ptr D.i 0)):=ai h9.st rfl
 obtain ⟨XS,G3,bV,c10,sw,h10,v10,WK⟩:=vb (d+10) h9 Ia
 rw [v9,EF Mh,Ct] at v10
 have kp:=WO.trans WK
 have Wj:s3.size<s6.size:=by have:=g6.2.1;have:=g5.2.1;have:s5.size=s4.size:=by rw [hs5];simp
                             omega
 have hs0:s.size<=s3.size:=by have:=g1.2.1;have:=g3.2.1;omega
 have QH:bV.get s3.size=some (.cells true (cE e)):=by rw [kp.kp _ Wj (by rw [qQ hs0];decide)];exact X6
 have NY:=dQ (g:=bV.get) QH
 have VN:G3.length=fs.length+1:=by
  have:=congrArg List.length v10
  rw [gm,List.length_append,gm] at this
  simpa using this
 have Sf:tY G3:=by
  refine ⟨fun f hf => ?_,by omega⟩
  have h1:vw f∈cu G3:=List.mem_map_of_mem hf
  rw [v10] at h1
  rcases List.mem_append.1 h1 with h1 | h1
  · obtain ⟨f0,R5,e0⟩:=List.mem_map.1 h1
    have h2:=hn.1 f0 R5
    have h3:(vw f0).nm=(vw f).nm:=by rw [e0]
    rw [show f.nm=f0.nm from h3.symm];exact h2
  · rw [List.mem_singleton] at h1
    have h3:(vw f).nm=bo k:=by rw [h1]
    rw [show f.nm=bo k from h3]
    have:=jD (k:=k);omega
 have Sc:bo k≠dE:=fun e=>by
  have:(bo k).head? = dE.head? := by rw [e]
  simp [bo,dE] at this
 have PK:kg G3 l sure:=by
  rw [lX,v10]
  rw [lX] at yJ
  rcases yJ with ⟨v,hv,a1,a2,a3⟩ | ⟨a1,a2,a3⟩
  · exact .inl ⟨v,List.mem_append_left _ hv,a1,a2,a3⟩
  · refine .inr ⟨fun v hv => ?_,a2,a3⟩
    rcases List.mem_append.1 hv with hv | hv
    · exact a1 v hv
    · rw [List.mem_singleton] at hv;rw [hv];exact Sc
 have htot:dx (cu G3)=dx (cu fs)+(bW g).length:=by
  rw [v10,tO]
  simp [dx]
 have Y1:K7 ρ XS s bV:=(Vg g16).trans kp.k7
 by_cases o7:(dx (cu fs):Int)+(bW g).length+(aX (bp e)).length<=room
 rotate_left
 · obtain ⟨bK,zU,g11⟩:=Fy d h10 Sf (by rw [htot];omega) hm hw
   have h11:=h10.gr g11
   have q11:ab (Z (.ptr D.p 0)) bK.get=some (Z (.ptr D.i 0)):=ai h11.st rfl
   obtain ⟨aav,ZW,cd,c12,Jw,h12,v12,WM⟩:=yM (d+10) h11 Ia
   rw [v10,IW Mh rfl] at v12
   refine ⟨cd,8,?_,.no h12 v12 ((Y1.trans (Yk g11)).trans WM.k7) (by decide) (.inr ⟨rfl,by rw [← he];exact ha,.inr (by rw [← he];omega)⟩)⟩
   rw [qW]
   unfold f22
   simp only [Nat.add_assoc,Nat.reduceAdd] at e1 e6 e7 e8 e9 sw zU Jw
   generalize R (d+13)=rr at *
   generalize ((bN 1 (bg g):Nat):Int)=SB at *
   generalize s1.size=UU at *
   generalize s3.size=XR at *
   generalize ((k:Nat):Int)=KK at *
   simp [np,e1,ah,zZ,Jd,i0,i1,i2,i3,i4,ag,Aa,Ro,l5,e6,i6,e7,q6,e8,e9,q9,sw,NY,zU,q11,Jw]
 obtain ⟨aau,D11,ZV,bK,zU,h11,S6,Vh,UW,Vi,Xy,Y0⟩:=JU d h10 PK Sf (by rw [rF,htot];omega) hsz ha hw hl
 have v11:=EL h10.nd Vh
 rw [v10] at v11
 refine ⟨bK,0,?_,?_⟩
 · rw [qW]
   unfold f22
   simp only [Nat.add_assoc,Nat.reduceAdd] at e1 e6 e7 e8 e9 sw zU
   generalize R (d+13)=rr at *
   generalize ((bN 1 (bg g):Nat):Int)=SB at *
   generalize s1.size=UU at *
   generalize s3.size=XR at *
   generalize ((k:Nat):Int)=KK at *
   simp [np,e1,ah,zZ,Jd,i0,i1,i2,i3,i4,ag,Aa,Ro,l5,e6,i6,e7,q6,e8,e9,q9,sw,NY,zU]
 · rw [he] at h11 S6 v11 ha o7
   exact .ok h11 S6 v11 (Y1.trans ⟨UW,Xy,Y0⟩) Vi ha o7
end
section
variable {ρ ρ':Nat->Nat} {s t:St} {D:oH} {room:Int} {fs fs':List Fl} {l:List bA} {q:FoS} {sure:Nat} {i m n:Nat} {e:bA} {y z bx:S} {xs:List S} {g:Sg} {ls:List dv} {P:dv->Bool} {f:FuncId}
theorem Zv.TK (h:Rd 5 s z ls.length (cells cI ls)) {j:Nat} {k:Int} {a:dv} (hn:k=j) (ha:ls[j]? = some a):∃ c p,av 5 (Z z) (I .i64 k)=some (Z (.ptr c p))/\aG 5 (Z (.ptr c p)) s.get=some (AI a):=by
 obtain ⟨c,p,h1,h2,h3⟩:=Rd.at h hn (List.getElem?_eq_some_iff.1 ha).1
 rw [jy fP ha] at h3
 exact ⟨c,p,h1,h3⟩
theorem FZ {Q:Program} {aa:ak} {fJ:List (Nat×Nat)} {args:List T} {σ:St} (hc:eF Q f=true):dyn Q aa (Z (.iP f fJ)) args σ=aa f (args++fJ.map yg) σ:=by
 simp only [dyn,hc,if_true]
theorem vZ (d:Nat) (wf:s.wf) (hz:Rd 5 s z ls.length (cells cI ls)) (Cy:∀ c,own z=some c->c<s.size) (hl:ls.length<=8000) (hc:eF Tryz.prog f=true)
 (uU:∀ a∈ls,∀ u,Gr s u->∃ u',R d f [AI a,Z (.ptr n 0)] u=some (B (P a),u')/\Gr u u') :
 ∃ t,R (d+2) 49 [Z z,Z (.iP f [(n,0)])] s=some (B (ls.any P),t)/\Gr s t:=by
 have ll:=hz.lens
 have key:∃ (t:St) (k:Int),R (d+1) 98 [Z z,Z (.iP f [(n,0)])] s=some (I .i64 k,t)/\Gr s t/\(0<=k↔ls.any P=true):=by
  obtain ⟨j,τ,lp,hj,g⟩:=aW (f:=sE (R d) 8192)
   (fun q v u=>∃ (k:Nat),q+k=ls.length/\v=[Z z,Z (.iP f [(n,0)]),I .i64 ls.length,I .i64 (k:Nat)]/\Gr s u/\(ls.drop k).any P=ls.any P)
   (fun j u=>((j = .exit 0 []/\ls.any P=false)\/∃ k:Nat,j = .ret (I .i64 (k:Nat))/\ls.any P=true)/\Gr s u) (by
   rintro q v u ⟨k,hq,rfl,g,hr⟩
   by_cases hk:k<ls.length
   · obtain ⟨a,ha⟩:∃ a,a=ls[k]:=⟨_,rfl⟩
     have Cv:ls[k]? = some a:=by rw [List.getElem?_eq_getElem hk,ha]
     rw [List.drop_eq_getElem_cons hk,← ha,List.any_cons] at hr
     obtain ⟨c,p,ix,ld⟩:=Zv.TK (Rd.gr hz Cy g) (k:=((k:Nat):Int)) rfl Cv
     obtain ⟨u',e1,g1⟩:=uU a (List.mem_of_getElem? Cv) u g
     have dy:dyn Tryz.prog (R d) (Z (.iP f [(n,0)])) [AI a] u=some (B (P a),u'):=by
      rw [FZ hc];exact e1
     have c0:((k:Nat):Int)<((ls.length:Nat):Int):=by omega
     have w1:IntKind.i64.wrap ((k:Int)+1)=((k+1:Nat):Int):=by rw [aB _ (by omega) (by omega)];omega
     cases hp:P a with
     | true =>
       right
       rw [hp] at dy hr
       refine ⟨.ret (I .i64 (k:Nat)),u',?_,(fun v h=>by cases h),.inr ⟨k,rfl,by rw [← hr];rfl⟩,g.trans g1⟩
       unfold sE
       generalize R d=rr at *
       generalize ((k+1:Nat):Int)=K1 at *
       generalize ((k:Nat):Int)=K0 at *
       generalize ((ls.length:Nat):Int)=LL at *
       simp [c0,ix,ld,dy]
     | false =>
       left
       rw [hp] at dy hr
       refine ⟨[Z z,Z (.iP f [(n,0)]),I .i64 ls.length,I .i64 ((k+1:Nat):Int)],u',q-1,?_,by omega,k+1,by omega,rfl,g.trans g1,by simpa using hr⟩
       unfold sE
       generalize R d=rr at *
       generalize ((k+1:Nat):Int)=K1 at *
       generalize ((k:Nat):Int)=K0 at *
       generalize ((ls.length:Nat):Int)=LL at *
       simp [c0,ix,ld,dy,w1]
   · right
     have hkk:k=ls.length:=by omega
     subst hkk
     rw [List.drop_length] at hr
     refine ⟨.exit 0 [],u,?_,(fun v h=>by cases h),.inl ⟨rfl,by rw [← hr];rfl⟩,g⟩
     unfold sE
     simp)
   8192 ls.length _ s ⟨0,by omega,rfl,Gr.refl wf,by simp⟩ (by omega)
  have e0:((0:Nat):Int)=0:=rfl
  rw [e0] at lp
  rcases hj with ⟨rfl,hr⟩ | ⟨k,rfl,hr⟩
  · refine ⟨τ,-1,?_,g,by rw [hr];simp⟩
    rw [Cn]
    unfold f98
    simp [ll,lp]
  · refine ⟨τ,(k:Nat),?_,g,by rw [hr];simp⟩
    rw [Cn]
    unfold f98
    simp [ll,lp]
 obtain ⟨t,k,e1,g1,hk⟩:=key
 refine ⟨t,?_,g1⟩
 rw [Lv]
 unfold f49
 have c1:decide ((0:Int)<=k)=ls.any P:=by
  cases h:ls.any P with
  | true=>exact decide_eq_true (hk.2 h)
  | false=>exact decide_eq_false fun h'=>by rw [hk.1 h'] at h;cases h
 generalize R (d+1)=rr at *
 simp [e1,c1]
theorem Va (a b:dv):iC (.a 5 [(0,.i),(1,.i),(2,.i),(3,.i),(4,.i)]) (AI a) (AI b)=some (B (decide (a=b))):=by
 have h:zT (.a 5 [(0,.i),(1,.i),(2,.i),(3,.i),(4,.i)]) (AI a) (AI b)=some (decide (a=b)):=by
  obtain ⟨a1,a2,a3,a4,a5⟩:=a
  obtain ⟨b1,b2,b3,b4,b5⟩:=b
  show some (decide (a1=b1)&&(decide (a2=b2)&&(decide (a3=b3)&&(decide (a4=b4)&&(decide (a5=b5)&&true)))))=some (decide (dv.mk a1 a2 a3 a4 a5=dv.mk b1 b2 b3 b4 b5))
  simp only [dv.mk.injEq,Bool.and_true,Bool.decide_and]
 simp only [iC,h]
theorem ZS (a:dv):iC (.a 5 [(0,.i),(1,.i),(2,.i),(3,.i),(4,.i)]) (AI a) (AI a)=some (B true):=by rw [Va,decide_eq_true rfl]
def kM (vs:List FV) (a:dv):Prop:=∃ (g:Sg) (k:Nat),a=gZ g/\jj g/\g.i=(k:Int)/\1<=k/\k<=64/\∃ v∈vs,v.nm=bo k/\v.l=U (bW g)/\v.sure=v.l.length
set_option maxHeartbeats 1000000 in
theorem EP (d:Nat) (h:aY ρ s D room fs l q sure) {a:dv} (ha:kM (cu fs) a):∃ t,R (d+7) 51 [Z (.ptr D.i 0),AI a] s=some (B true,t)/\Gr s t:=by
 obtain ⟨g,k,rfl,hg,hk,uj,hk2,v,hv,lh,hvl,_⟩:=ha
 obtain ⟨s1,hs1⟩:∃ s1,s1=s.push (.cells true (cI (gZ g))):=⟨_,rfl⟩
 have cX:aK s (ct (AI (gZ g)))=some (Z (.ptr s.size 0),s1):=by rw [hs1];rfl
 have g1:Gr s s1:=by rw [hs1];exact Gr.push h.qA _
 have b1:s1.get s.size=some (.cells true (cI (gZ g))):=by rw [hs1];exact St.aq _ _
 have q0:ab (Z (.ptr s.size 0)) s1.get=some (I .i64 (k:Nat)):=by rw [← hk];exact ai b1 rfl
 have e2:=zb (s:=s1) (d+5) uj hk2
 obtain ⟨y,s3,e3,g3,r3,o3⟩:=DS (d+3) (h.gr g1) (sZ uj hk2) hv lh hvl
 obtain ⟨s4,e4,g4⟩:=vI d g3.wf r3 (fun c hc=>(o3 c hc).2) hg
 obtain ⟨s5,MU,g5,b5,z5⟩:=On g4.wf
 obtain ⟨s6,Cz⟩:∃ s6,s6=s5.set s4.size (.cells true (cI (gZ g))):=⟨_,rfl⟩
 have zG:aw 5 (Z (.ptr s4.size 0)) (AI (gZ g)) s5=some (tt,s6):=by rw [Cz];exact BR b5 rfl
 have l6:=CK (m:=s6.get) (by rw [Cz];exact St.ar _ _ _:s6.get s4.size=some (.cells true (cI (gZ g))))
 have g6:Gr s4 s6:=by
  rw [Cz]
  exact ⟨St.wf_set g5.wf (g5.wf.lt b5) _,by simp;omega,fun c hc=>by rw [St.aj _ _ (by omega)];exact g5.2.2 c hc⟩
 have gg:=(g3.trans g4).trans g6
 have l7:=CK (m:=s6.get) (gg.get b1 g1.wf)
 have eq:=ZS (gZ g)
 refine ⟨s6,?_,g1.trans gg⟩
 rw [Lx]
 unfold f51
 generalize R (d+6)=rr at *
 generalize gZ g=a at *
 generalize s4.size=z4 at *
 generalize s.size=z0 at *
 generalize ((k:Nat):Int)=KK at *
 simp [cX,q0,e2,e3,ah,e4,MU,zG,l6,l7,eq]
theorem EO (d:Nat) (h:aY ρ s D room fs l q sure) (hz:Rd 5 s z ls.length (cells cI ls)) (Cy:∀ c,own z=some c->c<s.size) (hl:ls.length<=8000) (hv:s.get n=some (.cells true [.ptr D.i 0])) (hn7:n<s.size) (ha:∀ a∈ls,kM (cu fs) a) :
 ∃ t,R (d+10) 49 [Z z,Z (.iP 50 [(n,0)])] s=some (B false,t)/\Gr s t:=by
 obtain ⟨t,e,g⟩:=vZ (d+8) (P:=fun _=>false) h.qA hz Cy hl (f:=50) (by kernel_rfl) (n:=n) fun a hm u gu=>by
  have hu:=h.gr gu
  obtain ⟨s1,hs1⟩:∃ s1,s1=u.push (.cells true (cI a)):=⟨_,rfl⟩
  have cX:aK u (ct (AI a))=some (Z (.ptr u.size 0),s1):=by rw [hs1];rfl
  have g1:Gr u s1:=by rw [hs1];exact Gr.push hu.qA _
  have b1:s1.get u.size=some (.cells true (cI a)):=by rw [hs1];exact St.aq _ _
  have l1:=CK (m:=s1.get) b1
  have Mg:ab (Z (.ptr n 0)) s1.get=some (Z (.ptr D.i 0)):=ai ((gu.trans g1).get hv h.qA) rfl
  obtain ⟨s2,e2,g2⟩:=EP d (hu.gr g1) (ha a hm)
  refine ⟨s2,?_,g1.trans g2⟩
  rw [Lw]
  unfold f50
  generalize R (d+7)=rr at *
  simp [cX,Mg,l1,e2]
 refine ⟨t,?_,g⟩
 have:ls.any (fun _=>false)=false:=by simp
 rw [this] at e
 exact e
theorem DO (d:Nat) (wf:s.wf) (hz:Rd 5 s z ls.length (cells cI ls)) (Cy:∀ c,own z=some c->c<s.size) (hl:ls.length<=8000) {k:Int} (hv:s.get n=some (.cells true [.int .i64 k])) :
 (∃ t,R (d+3) 49 [Z z,Z (.iP 53 [(n,0)])] s=some (B (ls.any fun a=>decide (a.i=k)),t)/\Gr s t) ∧
 ∃ t,R (d+3) 49 [Z z,Z (.iP 80 [(n,0)])] s=some (B (ls.any fun a=>decide (a.i=k)),t)/\Gr s t:=by
 refine ⟨vZ (d+1) wf hz Cy hl (by kernel_rfl) fun a hm u gu => ?_,vZ (d+1) wf hz Cy hl (by kernel_rfl) fun a hm u gu => ?_⟩
 · obtain ⟨s1,hs1⟩:∃ s1,s1=u.push (.cells true (cI a)):=⟨_,rfl⟩
   have cX:aK u (ct (AI a))=some (Z (.ptr u.size 0),s1):=by rw [hs1];rfl
   have g1:Gr u s1:=by rw [hs1];exact Gr.push gu.wf _
   have b1:s1.get u.size=some (.cells true (cI a)):=by rw [hs1];exact St.aq _ _
   have l1:ab (Z (.ptr u.size 0)) s1.get=some (I .i64 a.i):=ai b1 rfl
   have Mg:ab (Z (.ptr n 0)) s1.get=some (I .i64 k):=ai ((gu.trans g1).get hv wf) rfl
   refine ⟨s1,?_,g1⟩
   rw [Lz]
   unfold f53
   simp [cX,Mg,l1]
 · obtain ⟨s1,hs1⟩:∃ s1,s1=u.push (.cells true (cI a)):=⟨_,rfl⟩
   have cX:aK u (ct (AI a))=some (Z (.ptr u.size 0),s1):=by rw [hs1];rfl
   have g1:Gr u s1:=by rw [hs1];exact Gr.push gu.wf _
   have b1:s1.get u.size=some (.cells true (cI a)):=by rw [hs1];exact St.aq _ _
   have l1:ab (Z (.ptr u.size 0)) s1.get=some (I .i64 a.i):=ai b1 rfl
   have Mg:ab (Z (.ptr n 0)) s1.get=some (I .i64 k):=ai ((gu.trans g1).get hv wf) rfl
   refine ⟨s1,?_,g1⟩
   rw [LN]
   unfold f80
   simp [cX,Mg,l1]
end
def gz (ls:List dv) (nm:Bs):Bool:=nm == dE||ls.any fun a=>nm == bo a.i.toNat
def xZ (vs:List FV):Prop:=∀ v∈vs,v.nm=dE\/∃ k,1<=k/\k<=64/\v.nm=bo k
theorem dr (k:Nat):bo k≠dE:=fun e=>by
 have:(bo k).head? = dE.head? := by rw [e]
 simp [bo,dE] at this
section
variable {ρ ρ':Nat->Nat} {s t u:St} {D:oH} {room:Int} {fs fs':List Fl} {l:List bA} {q:FoS} {sure:Nat} {i m n:Nat} {e:bA} {y z bx:S} {xs:List S} {g:Sg} {ls:List dv} {v1:T}
theorem Mw (hl:∀ a∈ls,1<=a.i/\a.i<=64) {k:Nat} (h1:1<=k) (h2:k<=64):(ls.any fun a=>decide (a.i=(k:Int)))=gz ls (bo k):=by
 have hL:(bo k == dE)=false:=by simpa using dr k
 unfold gz
 rw [hL,Bool.false_or]
 have key:∀ a∈ls,(decide (a.i=(k:Int)))=(bo k == bo a.i.toNat):=fun a ha=>by
  have:=hl a ha
  by_cases he:a.i=(k:Int)
  · rw [decide_eq_true he]
    have:a.i.toNat=k:=by omega
    rw [this];simp
  · rw [decide_eq_false he]
    symm
    have:bo k≠bo a.i.toNat:=fun e=>he (by
     have:=lY ⟨h1,h2⟩ (j:=a.i.toNat) ⟨by omega,by omega⟩ e
     omega)
    simpa using this
 induction ls with
 | nil=>rfl
 | cons a r ih =>
   rw [List.any_cons,List.any_cons,key a List.mem_cons_self,ih (fun b hb=>hl b (List.mem_cons_of_mem _ hb)) (fun b hb=>key b (List.mem_cons_of_mem _ hb))]
set_option maxHeartbeats 4000000 in
theorem Ig (d:Nat) (h:aY ρ u D room fs l q sure) (SK:u.get n=some (.cells true [.ptr D.i 0])) (lh:ρ n≠0) (hz:Rd 5 u z ls.length (cells cI ls)) (Cy:∀ c,own z=some c->c<u.size/\ρ c≠0) (hls:ls.length<=8000)
 (hid:∀ a∈ls,1<=a.i/\a.i<=64) (hnm:xZ (cu fs)) (hfl:fs.length<=1000) :
 ∃ x k t τ ρ' fs',R (d+3) 29 [Z (.ptr D.i 0)] u=some (Z x,t)/\aA (Z x)=some (I .i64 k)/\loops (jS (R (d+3)) 8192) 8192 [Z (.ptr n 0),v1,Z z,Z x,I .i64 k,I .i64 0] t=some (.exit 2 [v1],τ) ∧
   aY ρ' τ D room fs' l q sure/\cu fs'=(cu fs).filter (fun v=>gz ls v.nm)/\Kp ρ ρ' u τ:=by
 have Sb:∀ f∈fs,f.nm.length<=1000:=fun f hf=>by
  rcases hnm (vw f) (List.mem_map_of_mem hf) with e | ⟨k,_,_,e⟩
  · rw [show f.nm=dE from e];decide
  · rw [show f.nm=bo k from e];have:=jD (k:=k);omega
 rcases mS (d+2) h.dk Sb hfl with ⟨rfl,e⟩ | ⟨hne,e⟩
 · refine ⟨.az,0,u,u,ρ,[],e,rfl,?_,h,rfl,Kp.refl _ _⟩
   rw [show (8192:Nat)=8191+1 from rfl,loops]
   have:jS (R (d+3)) (8191+1) [Z (.ptr n 0),v1,Z z,Z .az,I .i64 0,I .i64 0] u=some (.exit 2 [v1],u):=by
    unfold jS
    simp
   rw [this]
 obtain ⟨ks,hks⟩:∃ ks,ks=cA (fs.map (·.nm)):=⟨_,rfl⟩
 obtain ⟨t,ht⟩:∃ t,t=u.push (.cells false (ks.map S.str)):=⟨_,rfl⟩
 rw [← hks,← ht] at e
 have g1:Gr u t:=by rw [ht];exact Gr.push h.qA _
 have bt:t.get u.size=some (.cells false (ks.map S.str)):=by rw [ht];exact St.aq _ _
 have zt:t.size=u.size+1:=by rw [ht];simp
 have eU:ks.length=fs.length:=by rw [hks,(bw _).length_eq,List.length_map]
 have gy:∀ nm,nm∈ks↔∃ v∈cu fs,v.nm=nm:=fun nm=>by
  rw [hks,(bw _).mem_iff,← vS,List.mem_map]
 have ht9:=h.k9 g1
 have YI:n<u.size:=h.qA.lt SK
 obtain ⟨r,hr⟩:∃ r,r=R (d+3):=⟨_,rfl⟩
 obtain ⟨jo,τ,lp,rfl,ρ',fs',H,hv,hkp⟩:=aW (f:=jS r 8192)
  (fun q0 v w=>∃ (j:Nat) (ρ':Nat->Nat) (cur:List Fl),q0+j=fs.length/\v=[Z (.ptr n 0),v1,Z z,Z (.sl u.size 0 fs.length (.grown 1)),I .i64 fs.length,I .i64 (j:Nat)]/\aY ρ' w D room cur l q sure/\cu cur=(cu fs).filter (fun v=>gz ls v.nm || !(ks.take j).contains v.nm)/\Kp (uc ρ u.size) ρ' t w)
  (fun jo w=>jo = .exit 2 [v1]/\∃ (ρ':Nat->Nat) (cur:List Fl),aY ρ' w D room cur l q sure/\cu cur=(cu fs).filter (fun v=>gz ls v.nm)/\Kp (uc ρ u.size) ρ' t w) (by
  rintro q0 v w ⟨j,ρ',cur,hq,rfl,H,hv,kp⟩
  by_cases hj:j<fs.length
  · left
    obtain ⟨nm,VZ⟩:∃ nm,nm=ks[j]:=⟨_,rfl⟩
    have hnk:ks[j]? = some nm:=by rw [List.getElem?_eq_getElem (by omega),VZ]
    have kZ:ks.take (j+1)=ks.take j++[nm]:=by rw [List.take_add_one,hnk];rfl
    have CA:w.get u.size=some (.cells false (ks.map S.str)):=by rw [kp.kp _ (by omega) (by rw [qQ (Nat.le_refl _)];decide)];exact bt
    have ix:av 1 (Z (.sl u.size 0 fs.length (.grown 1))) (I .i64 (j:Nat))=some (Z (.ptr u.size j)):=by
     have:=cZ (e:=1) (b:=u.size) (o:=0) (c := .grown 1) (k := .i64) (n:=((j:Nat):Int)) rfl hj
     rwa [Nat.zero_add,Nat.mul_one] at this
    have ld:ab (Z (.ptr u.size j)) w.get=some (Z (.str nm)):=ai CA (by rw [List.getElem?_map,hnk];rfl)
    have c0:((j:Nat):Int)<((fs.length:Nat):Int):=by omega
    have w1:IntKind.i64.wrap ((j:Int)+1)=((j+1:Nat):Int):=by rw [aB _ (by omega) (by omega)];omega
    have hstep:∀ b:Bool,b=gz ls nm->(cu fs).filter (fun v=>gz ls v.nm || !(ks.take (j+1)).contains v.nm)=if b=true then cu cur else tD nm (cu cur):=by
     rintro b rfl
     rw [hv,kZ]
     by_cases hb:gz ls nm=true
     · rw [if_pos hb]
       apply List.filter_congr
       intro v Rg
       by_cases Hs:v.nm=nm
       · rw [Hs,hb];rfl
       · simp [Hs]
     · rw [if_neg hb]
       unfold tD
       rw [List.filter_filter]
       apply List.filter_congr
       intro v Rg
       by_cases Hs:v.nm=nm
       · have:gz ls nm=false:=by simpa using hb
         rw [Hs,this];simp
       · simp [Hs]
    have box:∀ (k:Int) (w0:St) (Zs:Nat->Nat),aY Zs w0 D room cur l q sure->∃ w1 w2,aK w0 (ba [.int .i64 0])=some (Z (.ptr w0.size 0),w1)/\aw 1 (Z (.ptr w0.size 0)) (I .i64 k) w1=some (tt,w2)/\ab (Z (.ptr w0.size 0)) w2.get=some (I .i64 k)/\w2.get w0.size=some (.cells true [.int .i64 k])/\Gr w0 w2:=by
     intro k w0 Zs H0
     have b0:(w0.push (.cells true [.int .i64 0])).get w0.size=some (.cells true [.int .i64 0]):=St.aq _ _
     have b1:((w0.push (.cells true [.int .i64 0])).set w0.size (.cells true [.int .i64 k])).get w0.size=some (.cells true [.int .i64 k]):=St.ar _ _ _
     exact ⟨_,_,rfl,aT b0 (by simp),ai b1 rfl,b1,⟨St.wf_set (St.bn H0.qA _) (by simp) _,by simp,fun c hc=>by rw [St.aj _ _ (by omega),St.aI _ _ (by omega)]⟩⟩
    have Ws:∃ v∈cu fs,v.nm=nm:=(gy nm).1 (List.mem_of_getElem? hnk)
    obtain ⟨v0,Rf,SI⟩:=Ws
    rcases hnm v0 Rf with eL | ⟨k,uj,hk2,eN⟩
    · have Q9:nm=dE:=by rw [← SI];exact eL
      have e1:=PY (s:=w) (d+2)
      rw [← Q9] at e1
      obtain ⟨w2,w3,nw,st,l3,b3,g3⟩:=box 0 w ρ' H
      refine ⟨[Z (.ptr n 0),v1,Z z,Z (.sl u.size 0 fs.length (.grown 1)),I .i64 fs.length,I .i64 ((j+1:Nat):Int)],w3,q0-1,?_,by omega,j+1,uc ρ' w.size,cur,by omega,rfl,H.k9 g3,?_,kp.trans ⟨g3.2.1,fun c hc=>er hc,fun c hc _=>g3.2.2 c hc⟩⟩
      · unfold jS
        simp only [Nat.add_assoc,Nat.reduceAdd] at e1
        rw [← hr] at e1
        generalize ((j+1:Nat):Int)=J1 at *
        generalize ((j:Nat):Int)=J0 at *
        generalize ((fs.length:Nat):Int)=LL at *
        generalize w.size=ws at *
        simp [c0,ix,ld,e1,nw,st,l3,w1,kF]
      · rw [hstep true (by rw [Q9];unfold gz;simp),if_pos rfl]
    · have VV:nm=bo k:=by rw [← SI];exact eN
      have e1:=Mr (s:=w) (d+2) uj hk2
      rw [← VV] at e1
      obtain ⟨w2,w3,nw,st,l3,b3,g3⟩:=box k w ρ' H
      have hzw:Rd 5 w3 z ls.length (cells cI ls):=hz.keep fun c hc=>by
       obtain ⟨c1,c2⟩:=Cy c hc
       have:=kp.sz
       rw [g3.2.2 c (by omega),kp.kp c (by omega) (by rw [er c1];exact c2),g1.2.2 c c1]
      have Wa:∀ c,own z=some c->c<w3.size:=fun c hc=>by have:=Cy c hc;have:=kp.sz;have:=g3.2.1;omega
      obtain ⟨w4,e4,g4⟩:=(DO d g3.wf hzw Wa hls b3).1
      rw [Mw hid uj hk2,← VV] at e4
      have Ou:¬ ((k:Nat):Int)=0:=by omega
      have H4:=(H.k9 g3).gr g4
      cases hb:gz ls nm with
      | true =>
        rw [hb] at e4
        refine ⟨[Z (.ptr n 0),v1,Z z,Z (.sl u.size 0 fs.length (.grown 1)),I .i64 fs.length,I .i64 ((j+1:Nat):Int)],w4,q0-1,?_,by omega,j+1,uc ρ' w.size,cur,by omega,rfl,H4,?_,kp.trans ⟨by have:=g3.2.1;have:=g4.2.1;omega,fun c hc=>er hc,fun c hc _=>by rw [g4.2.2 c (by have:=g3.2.1;omega),g3.2.2 c hc]⟩⟩
        · unfold jS
          have cl:rN 53 [Z (.ptr w.size 0)] []=some (Z (.iP 53 [(w.size,0)])):=rfl
          simp only [Nat.add_assoc,Nat.reduceAdd] at e1
          rw [← hr] at e1 e4
          generalize ((j+1:Nat):Int)=J1 at *
          generalize ((j:Nat):Int)=J0 at *
          generalize ((fs.length:Nat):Int)=LL at *
          generalize ((k:Nat):Int)=KK at *
          generalize w.size=ws at *
          simp [c0,ix,ld,e1,nw,st,l3,Ou,cl,e4,w1,kF]
        · rw [hstep true hb.symm,if_pos rfl]
      | false =>
        rw [hb] at e4
        have hwv:w4.get n=some (.cells true [.ptr D.i 0]):=by
         have:=kp.sz
         rw [g4.2.2 n (by have:=g3.2.1;omega),g3.2.2 n (by omega),kp.kp n (by omega) (by rw [er YI];exact lh),g1.2.2 n YI];exact SK
        have lv:ab (Z (.ptr n 0)) w4.get=some (Z (.ptr D.i 0)):=ai hwv rfl
        obtain ⟨ρ5,ZX,w5,c5,e5,H5,hv5,kp5⟩:=yM (n:=nm) d H4 (by rw [VV];exact sZ uj hk2)
        refine ⟨[Z (.ptr n 0),v1,Z z,Z (.sl u.size 0 fs.length (.grown 1)),I .i64 fs.length,I .i64 ((j+1:Nat):Int)],w5,q0-1,?_,by omega,j+1,ρ5,ZX,by omega,rfl,H5,?_,(kp.trans (ρ'':=uc ρ' w.size) (u:=w4) ⟨by have:=g3.2.1;have:=g4.2.1;omega,fun c hc=>er hc,fun c hc _=>by rw [g4.2.2 c (by have:=g3.2.1;omega),g3.2.2 c hc]⟩).trans kp5⟩
        · unfold jS
          have cl:rN 53 [Z (.ptr w.size 0)] []=some (Z (.iP 53 [(w.size,0)])):=rfl
          simp only [Nat.add_assoc,Nat.reduceAdd] at e1
          rw [← hr] at e1 e4 e5
          generalize ((j+1:Nat):Int)=J1 at *
          generalize ((j:Nat):Int)=J0 at *
          generalize ((fs.length:Nat):Int)=LL at *
          generalize ((k:Nat):Int)=KK at *
          generalize w.size=ws at *
          simp [c0,ix,ld,e1,nw,st,l3,Ou,cl,e4,lv,e5,w1,kF]
        · rw [hstep false hb.symm,if_neg (by decide),hv5]
  · right
    have hjj:j=fs.length:=by omega
    subst hjj
    refine ⟨.exit 2 [v1],w,?_,(fun v h=>by cases h),rfl,ρ',cur,H,?_,kp⟩
    · unfold jS
      simp
    · rw [hv]
      apply List.filter_congr
      intro v Rg
      have h1:v.nm∈ks:=(gy v.nm).2 ⟨v,Rg,rfl⟩
      rw [← eU,List.take_length]
      simp [h1])
  8192 fs.length _ t ⟨0,_,fs,by omega,rfl,ht9,(List.filter_eq_self.2 fun v _=>by simp).symm,Kp.refl _ _⟩ (by omega)
 have e0:((0:Nat):Int)=0:=rfl
 rw [e0,hr] at lp
 refine ⟨_,_,t,τ,ρ',fs',e,rfl,lp,H,hv,by have:=hkp.sz;omega,fun c hc=>by rw [hkp.ro c (by omega),er hc],fun c hc hr=>by rw [hkp.kp c (by omega) (by rw [er hc];exact hr),g1.2.2 c hc]⟩
end
def Fh (vs:List FV) (bs:Bs):Prop:=(∀ v∈vs,v.nm=dE->v.l=U bs)/\(fS dE vs=false->bs=[])
def qi (ls:List dv) (N:Nat) (vs:List FV):List FV:=(gE dE (Dv dE N vs)).filter fun v=>gz ls v.nm
section
variable {ρ ρ':Nat->Nat} {s t:St} {D:oH} {room:Int} {fs fs':List Fl} {l es:List bA} {q:FoS} {sure:Nat} {i m:Nat} {e:bA} {y:S} {v0 v1:T} {bs:Bs}
theorem DR (d:Nat) (h:Dk s i m room fs) (ho:Fh (cu fs) bs):∃ y t c,R (d+3) 42 [Z (.ptr i 0),Z (.str dE)] s=some (.eD [.s y,.s (.int .i64 c)],t)/\Gr s t/\RB t y bs/\∀ c,own y=some c->c<t.size:=by
 cases hh:fS dE (cu fs) with
 | false =>
   have:=ho.2 hh
   subst this
   exact ⟨.az,s,9,AA d h (iY hh) ib,Gr.refl h.wf,Rd.nil 1 s,fun c hc=>by cases hc⟩
 | true =>
   obtain ⟨k,f,hk,hnm⟩:=jA hh
   obtain ⟨y,t,e1,g,r,o⟩:=uP d h hk (by rw [hnm];exact ib)
   rw [hnm] at e1
   refine ⟨y,t,0,e1,g,?_,fun c hc=>(o c hc).2⟩
   have hl:f.l=U bs:=ho.1 (vw f) (List.mem_map_of_mem (List.mem_of_getElem? hk)) hnm
   rw [hl] at r
   unfold xK at r
   rw [ng] at r
   exact r
theorem ml {vs:List FV} {a:dv} {g:FV->FV} (h:kM vs a):kM (fL dE g vs) a:=by
 obtain ⟨sg,k,h1,h2,h3,h4,h5,v,hv,hn,hl,hs⟩:=h
 refine ⟨sg,k,h1,h2,h3,h4,h5,v,?_,hn,hl,hs⟩
 unfold fL
 refine List.mem_map.2 ⟨v,hv,?_⟩
 rw [if_neg (by rw [hn];exact dr k)]
theorem mj {vs:List FV} {a:dv} (h:kM vs a):1<=a.i/\a.i<=64:=by
 obtain ⟨sg,k,rfl,_,h3,h4,h5,_⟩:=h
 show 1<=sg.i/\sg.i<=64
 omega
theorem lZ {vs:List FV} {n:Bs} {g:FV->FV} (hg:∀ v,(g v).nm=v.nm) (h:xZ vs):xZ (fL n g vs):=by
 intro v hv
 obtain ⟨w,hw,rfl⟩:=List.mem_map.1 hv
 have:(if w.nm=n then g w else w).nm=w.nm:=by split<;>simp [hg]
 rw [this]
 exact h w hw
set_option maxHeartbeats 4000000 in
theorem uY (d:Nat) (hd:Dk s i m room fs) (ho:Fh (cu fs) bs) (hnm:xZ (cu fs)) (hfl:fs.length<=1000) (hri:ρ i=0) (hrm:ρ m=0) (hrf:∀ f∈fs,ρ f.fb=0/\∀ c,own f.x=some c->ρ c=0) (m9:bs.length<=7900)
 {N:Nat} (QX:kA bs=(es,N)) (hN:N=(aD es).length) (Yq:N<=bs.length) (hf:aZ kT es=(0,q)) (Mm:∀ a∈q.l,kM (cu fs) a) (xR:q.l.length<=8000) (hw:∀ e∈es,rK e) (hl:es.length<=2000) :
 ∃ ρ' D fs' t,R (d+13) 14 [Z (.ptr i 0)] s=some (.eD [.s (.ptr D.p 0),.s (.int .i64 0)],t)/\aY ρ' t D room fs' es q es.length/\cu fs'=qi q.l N (cu fs)/\(D.i=i/\D.m=m)/\K7 ρ ρ' s t:=by
 obtain ⟨d1,d2,d3⟩:=hd.zX
 obtain ⟨n,hn⟩:∃ n,n=s.size:=⟨_,rfl⟩
 obtain ⟨s1,hs1⟩:∃ s1,s1=s.push (.cells true [.ptr i 0]):=⟨_,rfl⟩
 have cX:aK s (ct (Z (.ptr i 0)))=some (Z (.ptr n 0),s1):=by rw [hs1,hn];rfl
 have g1:Gr s s1:=by rw [hs1];exact Gr.push hd.wf _
 have b1:s1.get n=some (.cells true [.ptr i 0]):=by rw [hs1,hn];exact St.aq _ _
 have l1:ab (Z (.ptr n 0)) s1.get=some (Z (.ptr i 0)):=ai b1 rfl
 have z1:s1.size=s.size+1:=by rw [hs1];simp
 have np:iC .p (Z (.ptr i 0)) (Z .bU)=some (B false):=rfl
 obtain ⟨b,mp,s3,e3,H3⟩:=uM (d+10) g1.wf
 have g3:Gr s1 s3:=H3.NA
 have z3:=g3.2.1
 have hb0:s1.size<=b:=Nat.le_of_not_lt fun h=>H3.hb h trivial
 have hm0:s1.size<=mp:=Nat.le_of_not_lt fun h=>H3.hm h trivial
 have QS:=g3.wf.lt H3.st
 have Q8:=g3.wf.lt H3.Bn
 have Jz:=H3.bm
 obtain ⟨p,hp⟩:∃ p,p=s3.size:=⟨_,rfl⟩
 obtain ⟨s4,hs4⟩:∃ s4,s4=s3.push (.cells true (xM i b .az .az 0)):=⟨_,rfl⟩
 have Zy:aU (aE [.bU,.az,.az,.bU,.int .i64 0] [(0,1,Z (.ptr i 0)),(3,1,Z (.ptr b 0))])=some (.v (.agg (xM i b .az .az 0))):=rfl
 have Aa:aK s3 (ct (.v (.agg (xM i b .az .az 0))))=some (Z (.ptr p 0),s4):=by rw [hs4,hp];rfl
 have g4:Gr s3 s4:=by rw [hs4];exact Gr.push g3.wf _
 have z4:s4.size=s3.size+1:=by rw [hs4];simp
 have p4:s4.get p=some (.cells true (xM i b .az .az 0)):=by rw [hs4,hp];exact St.aq _ _
 have b3:=g3.get b1 g1.wf
 have b4:=g4.get b3 g3.wf
 have Jv:ab (Z (.ptr n 0)) (cq 2 s3.get (Bw 3 s3.size (ct (.v (.agg (xM i b .az .az 0)))) []))=ab (Z (.ptr n 0)) s1.get:=CQ b3 b1 rfl fun q j b' hm=>by
  rcases xf hm with rfl | hm
  · omega
  · cases hm
 have l4:ab (Z (.ptr n 0)) s4.get=some (Z (.ptr i 0)):=ai b4 rfl
 have Jy:=(g1.trans g3).trans g4
 obtain ⟨Ju,yP⟩:∃ Ju:Nat->Nat,Ju=fun c=>if c<s.size then ρ c else if c=p then 1 else if c=b then 2 else if c=mp then 3 else 9:=⟨_,rfl⟩
 have ra:∀ c,c<s.size->Ju c=ρ c:=fun c hc=>by rw [yP];exact if_pos hc
 have rp:Ju p=1:=by rw [yP];dsimp only;rw [if_neg (by omega),if_pos rfl]
 have rb:Ju b=2:=by rw [yP];dsimp only;rw [if_neg (by omega),if_neg (by omega),if_pos rfl]
 have rm:Ju mp=3:=by rw [yP];dsimp only;rw [if_neg (by omega),if_neg (by omega),if_neg (Ne.symm Jz),if_pos rfl]
 have rn:Ju n=9:=by rw [yP];dsimp only;rw [if_neg (by omega),if_neg (by omega),if_neg (by omega),if_neg (by omega)]
 have h4:aY Ju s4 ⟨p,i,m,b,mp,.az,.az,.az⟩ room fs [] kT 0 :=
  ⟨hd.gr Jy,p4,Ow.nil 8 s4,Ow.nil 1 s4,(H3.kE g4).re,⟨rp,rb,rm,fun c hc=>(by cases hc),fun c hc=>(by cases hc),fun c hc=>(by cases hc),by rw [ra _ d1];exact hri,by rw [ra _ d2];exact hrm,fun f hf=>by rw [ra _ (d3 f hf).1];exact (hrf f hf).1,fun f hf c hc=>by rw [ra _ ((d3 f hf).2 c hc)];exact (hrf f hf).2 c hc⟩,
   rfl,fun e he=>(by cases he),by simp,Nat.le_refl _⟩
 obtain ⟨y,s5,c5,e5,g5,r5,o5⟩:=DR (d+9) h4.dk ho
 obtain ⟨y2,s6,e6,F6⟩:=Es (d+1) g5.wf r5 o5 m9
 rw [QX] at e6 F6
 have z5:=g5.2.1
 have z6:=F6.gr.2.1
 obtain ⟨Rq,HA⟩:∃ Rq:Nat->Nat,Rq=fun c=>if c<s4.size then Ju c else 9:=⟨_,rfl⟩
 have UQ:∀ c,c<s4.size->Rq c=Ju c:=fun c hc=>by rw [HA];exact if_pos hc
 have h6:aY Rq s6 ⟨p,i,m,b,mp,.az,.az,.az⟩ room fs [] kT 0:=((h4.XC UQ).gr g5).gr F6.gr
 have ll:=F6.rd.lens
 have b6:s6.get n=some (.cells true [.ptr i 0]):=by rw [F6.gr.2.2 n (by omega),g5.2.2 n (by omega)];exact b4
 obtain ⟨Zt,D7,s7,Y4,h7,z7,⟨NO,QZ,Cx⟩,Xz,k7⟩:=D9 (v0:=Z (.ptr n 0)) d h6 F6.rd (fun c hc=>⟨(F6.new c hc).2,by have:=(F6.new c hc).1;rw [HA];dsimp only;rw [if_neg (by omega)];decide⟩) hw hf hl
 dsimp only at NO QZ Cx Y4
 have Zh:Rq n=9:=by rw [UQ n (by omega)];exact rn
 have b7:s7.get n=some (.cells true [.ptr i 0]):=by rw [k7 n (by omega) (by rw [Zh];exact .inr (by decide))];exact b6
 have l7:ab (Z (.ptr n 0)) s7.get=some (Z (.ptr i 0)):=ai b7 rfl
 have Tx:=h7.st
 rw [NO] at Tx
 have Tm:ab (Z (.ptr p 1)) s7.get=some (Z D7.lx):=ai Tx rfl
 have ll7:=h7.le.rd.lens
 have e8:=vA (d+11) (l:=es) Tx h7.en.rd (Nat.le_refl _) (by omega)
 rw [dD,← hN] at e8
 obtain ⟨ρ8,ZY,s8,c8,e9,h8,v8,WN⟩:=Hd (d+9) h7 ib (k0:=N) (fun v hv lh=>by rw [ho.1 v hv lh,ng];exact Yq)
 obtain ⟨XV,Vf,s9,c9,sw,h9,v9,WO⟩:=vb (d+9) h8 ib
 rw [v8] at v9
 rw [QZ] at e9 sw
 have D4:=WN.trans WO
 have z8:=WN.sz
 have z9:=D4.sz
 have XD:Zt n=9:=by rw [Xz n (by omega)];exact Zh
 have b8:s8.get n=some (.cells true [.ptr i 0]):=by rw [WN.kp n (by omega) (by rw [XD];decide)];exact b7
 have b9:s9.get n=some (.cells true [.ptr i 0]):=by rw [D4.kp n (by omega) (by rw [XD];decide)];exact b7
 have l8:ab (Z (.ptr n 0)) s8.get=some (Z (.ptr i 0)):=ai b8 rfl
 have E6:=h9.st
 rw [NO] at E6
 have q91:ab (Z (.ptr p 1)) s9.get=some (Z D7.lx):=ai E6 rfl
 have h10:=h9.C0 (Nat.le_refl es.length)
 obtain ⟨bV,kX⟩:∃ bV,bV=s9.set D7.p (.cells true (xM D7.i D7.b D7.lx D7.ex es.length)):=⟨_,rfl⟩
 rw [← kX] at h10
 have sS:aw 1 (Z (.ptr p 4)) (I .i64 (es.length:Nat)) s9=some (tt,bV):=by rw [kX,NO];exact aT E6 (by simp)
 have XQ:bV.size=s9.size:=by rw [kX];simp
 have EC:=h10.st
 rw [NO] at EC
 have Xj:ab (Z (.ptr p 3)) bV.get=some (Z (.ptr D7.b 0)):=ai EC rfl
 have hpn:n≠D7.p:=by rw [NO];omega
 have QH:bV.get n=some (.cells true [.ptr i 0]):=by rw [kX,St.aj _ _ hpn];exact b9
 have rn9:XV n=9:=by rw [D4.ro n (by omega)];exact XD
 obtain ⟨z,bK,zU,Nv⟩:=pf (d+10) h10.hf xR
 have h11:=h10.k9 Nv.gr
 have FG:=Nv.gr.get QH h10.qA
 have S3:ab (Z (.ptr n 0)) bK.get=some (Z (.ptr i 0)):=ai FG rfl
 have cl:rN 50 [Z (.ptr n 0)] []=some (Z (.iP 50 [(n,0)])):=rfl
 have Sz:∀ a∈q.l,kM (cu Vf) a:=fun a ha=>by rw [v9];exact ml (ml (Mm a ha))
 have Cy:∀ c,own z=some c->c<bK.size/\bV.size<=c:=fun c hc=>⟨(Nv.new c hc).2,(Nv.new c hc).1⟩
 obtain ⟨cd,Jw,g12⟩:=EO (d+2) h11 Nv.rd (fun c hc=>(Cy c hc).1) xR (n:=n) (by rw [QZ];exact FG) (h11.qA.lt FG) Sz
 have h12:=h11.gr g12
 have Ol:=g12.get FG h11.qA
 have WQ:ab (Z (.ptr n 0)) cd.get=some (Z (.ptr i 0)):=ai Ol rfl
 have VX:n<bV.size:=by omega
 have YF:Vf.length=fs.length:=by
  have:=congrArg List.length v9
  rw [gm] at this
  rw [this]
  simp [gE,Dv,fL,cu]
 obtain ⟨x,k,ey,gB,XT,Vd,ES,lx,S7,QO,jh,P6⟩:=Ig (v1:=Z (.ptr p 0)) (d+9) h12 (n:=n) (by rw [QZ];exact Ol) (by rw [er VX,rn9];decide) (Nv.rd.gr (fun c hc=>(Cy c hc).1) g12) (fun c hc=>⟨by have:=Cy c hc;have:=g12.2.1;omega,by rw [qQ (Cy c hc).2];decide⟩) xR
  (fun a ha=>mj (Mm a ha)) (by rw [v9];exact lZ (fun _=>rfl) (lZ (fun _=>rfl) hnm)) (by omega)
 rw [v9] at jh
 rw [QZ] at ES
 refine ⟨XT,D7,Vd,gB,?_,QO,jh,⟨QZ,Cx⟩,?_⟩
 · rw [Ky]
   unfold f14
   rw [show dE=[108,111,103] from rfl] at e5 e9 sw
   simp only [Nat.add_assoc,Nat.reduceAdd] at e3 e5 e6 e8 e9 sw zU Jw ES S7
   rw [NO]
   generalize R (d+12)=rr at *
   generalize ((es.length:Nat):Int)=LL at *
   generalize ((N:Nat):Int)=NN at *
   simp [cX,l1,np,e3,Zy,Aa,Jv,l4,e5,ah,e6,ll,Y4,l7,Tm,ll7,e8,e9,l8,sw,q91,sS,Xj,zU,cl,Jw,WQ,ES,lx,S7,aQ,bI]
 · have a1:=Jy.2.1
   have a2:=Nv.gr.2.1
   have a3:=g12.2.1
   have a4:=P6.sz
   refine ⟨by omega,fun c hc => ?_,fun c hc hr => ?_⟩
   · rw [P6.ro c (by omega),er (by omega),D4.ro c (by omega),Xz c (by omega),UQ c (by omega),ra c hc]
   · have Yx:c<s4.size:=by omega
     have Yl:Rq c=ρ c:=by rw [UQ c Yx,ra c hc]
     have Z4:Zt c=ρ c:=by rw [Xz c (by omega),Yl]
     have QW:c≠D7.p:=by rw [NO];omega
     have Z5:XV c=ρ c:=by rw [D4.ro c (by omega),Z4]
     rw [P6.kp c (by omega) (by rw [er (by omega),Z5];omega),g12.2.2 c (by omega),Nv.gr.2.2 c (by omega),kX,St.aj _ _ QW,D4.kp c (by omega) (by omega),k7 c (by omega) (by rw [Yl];exact .inr hr),F6.gr.2.2 c (by omega),g5.2.2 c Yx,Jy.2.2 c hc]
end
structure uG where
 out:List bA
 there:List Nat
 view:Nat
 id:Nat
 at_:Nat
def zD (n:Nat):Bs:=[115,101,97,108,32]++(if n=0 then [49] else if n=1 then [57] else [51,51])
def j4 (σ:uG) (k:Nat):uG :=
 if k%8=7 then { σ with out:=σ.out++[{ bC with k:=3,v:=(σ.view+1:Nat) }],view:=σ.view+1 }
 else if k%8=6 then { σ with out:=σ.out++[{ bC with k:=4,v:=(σ.view:Nat),x:=zD (k / 8%3) }] }
 else if 3<k%8/\0<σ.there.length then
  { σ with out:=σ.out++[{ bC with k:=2,v:=(σ.view:Nat),i:=(σ.there.getD (k / 8%σ.there.length) 0:Nat) }],
           there:=σ.there.take (k / 8%σ.there.length)++σ.there.drop (k / 8%σ.there.length+1) }
 else { out:=σ.out++[{ k:=1,v:=(σ.view:Nat),i:=(σ.id+1:Nat),t:=(k / 8%4:Nat),f:=(σ.at_:Nat),o:=(σ.at_+1+k / 8%30:Nat),u:=(k%4294967296:Nat),x:=[] }],
        there:=σ.there++[σ.id+1],view:=σ.view,id:=σ.id+1,at_:=σ.at_+1+k / 8%30 }
def bJ (v:Int):Nat:=(IntKind.u64.wrap v).toNat
abbrev Ob (vs:List Nat):List S:=vs.map fun n:Nat=>S.int .i64 (n:Int)
section
variable {s t:St} {x y:S} {bs cs:Bs} {i:Nat} {l m:List bA} {e n:Nat} {vs:List S}
theorem xX {s0:St} (h:Fr e s0 s x n vs) (g:Gr s0 t) (hz:s.size<=t.size) (hk:∀ c,own x=some c->t.get c=s.get c):Fr e s0 t x n vs :=
 ⟨g,h.ow.keep hk,fun c hc=>⟨(h.new c hc).1,Nat.lt_of_lt_of_le (h.new c hc).2 hz⟩⟩
theorem FE.lit' {s0:St} {e:bA} (h:FE s0 s x l) (hl:l.length<=1000000) :
 ∃ x' t s',aK s (aR 1 (aE [.int .i64 0,.int .i64 0,.int .i64 0,.int .i64 0,.int .i64 0,.int .i64 0,.int .u32 0,.str []] [(0,8,AE e)]))=some (Z (.sl s.size 0 1 (.known 1)),s')/\aH 8 72 (Z x) (Z (.sl s.size 0 1 (.known 1))) s'=some (Z x',t)/\FE s0 t x' (l++[e])/\s.size<=t.size ∧
   (∀ b,b<s.size->own x≠some b->t.get b=s.get b)/\(own x'=none\/own x'=own x\/∃ c,own x'=some c/\s.size<=c):=by
 have L:=Fr.lit 8 h.gr.1 (n:=1) (vs:=cells cE [e]) (by simp [cE])
 obtain ⟨x',t,e1,f,hz,k,o⟩:=(h.kE L.gr).nq (by_:=72) (by omega) L.rd.src (by simp [cE]) (by omega)
 refine ⟨x',t,_,rfl,e1,?_,Nat.le_trans L.gr.2.1 hz,fun b hb ho => ?_,?_⟩
 · unfold FE
   rw [fp,List.length_append]
   exact f
 · rw [k b (Nat.lt_of_lt_of_le hb L.gr.2.1) ho,L.gr.2.2 b hb]
 · rcases o with h | h | ⟨c,h,h'⟩
   · exact .inl h
   · exact .inr (.inl h)
   · exact .inr (.inr ⟨c,h,Nat.le_trans L.gr.2.1 h'⟩)
structure C8 (s0 s:St) (o y:S) (l:List bA) (ns:List Nat):Prop where
 out:FE s0 s o l
 there:Fr 1 s0 s y ns.length (Ob ns)
 ne:∀ c,own o=some c->own y≠some c
theorem C8.lit {s0:St} {o:S} {ns:List Nat} {e:bA} (h:C8 s0 s o y l ns) (hl:l.length<=1000000) :
 ∃ x' t s',aK s (aR 1 (aE [.int .i64 0,.int .i64 0,.int .i64 0,.int .i64 0,.int .i64 0,.int .i64 0,.int .u32 0,.str []] [(0,8,AE e)]))=some (Z (.sl s.size 0 1 (.known 1)),s')/\aH 8 72 (Z o) (Z (.sl s.size 0 1 (.known 1))) s'=some (Z x',t)/\C8 s0 t x' y (l++[e]) ns:=by
 obtain ⟨x',t,s',e1,e2,f,hz,hk,ho⟩:=FE.lit' (e:=e) h.out hl
 refine ⟨x',t,s',e1,e2,f,xX h.there f.gr hz fun c hc=>hk c (h.there.new c hc).2 fun hh=>h.ne c hh hc,fun c hc hy => ?_⟩
 rcases ho with h1 | h1 | ⟨c',h1,h2⟩
 · rw [h1] at hc;cases hc
 · rw [h1] at hc;exact h.ne c hc hy
 · rw [h1] at hc
   cases hc
   have:=(h.there.new c hy).2
   omega
theorem C8.app {s0:St} {o z:S} {ns ms ks:List Nat} (h:C8 s0 s o y l ns) (hy:Fr 1 s0 s x ks.length (Ob ks)) (eH:own x=own y) (hz:eT 1 (Z z) s.get=some (ms.length,Ob ms)) (hl:(ks.length+ms.length)*8<=140737488355328) :
 ∃ y' t,aH 1 8 (Z x) (Z z) s=some (Z y',t)/\C8 s0 t o y' l (ks++ms):=by
 obtain ⟨y',t,e1,f,hzz,hk,ho⟩:=hy.nq (by_:=8) (by omega) hz (by simp) hl
 refine ⟨y',t,e1,xX h.out f.gr hzz fun c hc=>hk c (h.out.new c hc).2 fun hh=>h.ne c hc (by rw [← eH];exact hh),?_,fun c hc Bc => ?_⟩
 · rw [List.length_append]
   have:Ob (ks++ms)=Ob ks++Ob ms:=by simp [Ob]
   rw [this]
   exact f
 · rcases ho with h1 | h1 | ⟨c',h1,h2⟩
   · rw [h1] at Bc;cases Bc
   · rw [h1,eH] at Bc;exact h.ne c hc Bc
   · rw [h1] at Bc
     cases Bc
     have:=(h.out.new c hc).2
     omega
theorem rk (k:IntKind) (a b:Nat) (h:0<b):af .rem (I k a) (I k b)=some (I k ((a%b:Nat))):=by
 rw [rj _ _ _ (by omega)];rfl
theorem rl (v:Int):IntKind.u64.wrap v=((bJ v:Nat):Int):=(Int.toNat_of_nonneg (wrap_u64 v)).symm
structure Cc (σ:uG) (n:Nat):Prop where
 out:σ.out.length=n
 there:σ.there.length<=n
 view:σ.view<=n
 id:σ.id<=n
 at_:σ.at_<=30*n
theorem Cc.step {σ:uG} {n:Nat} (h:Cc σ n) (k:Nat):Cc (j4 σ k) (n+1):=by
 obtain ⟨h1,h2,h3,h4,h5⟩:=h
 unfold j4
 split
 · exact ⟨by simp [h1],by show σ.there.length<=_;omega,by show σ.view+1<=_;omega,by show σ.id<=_;omega,by show σ.at_<=_;omega⟩
 · split
   · exact ⟨by simp [h1],by show σ.there.length<=_;omega,by show σ.view<=_;omega,by show σ.id<=_;omega,by show σ.at_<=_;omega⟩
   · split
     · exact ⟨by simp [h1],by simp;omega,by show σ.view<=_;omega,by show σ.id<=_;omega,by show σ.at_<=_;omega⟩
     · exact ⟨by simp [h1],by simp;omega,by show σ.view<=_;omega,by show σ.id+1<=_;omega,by show σ.at_+1+k / 8%30<=_;have:=Nat.mod_lt (k / 8) (show 0<30 by decide);omega⟩
end
theorem Nk:∀ n,n<3->(fB (zD n)).2.1=0:=by decide +kernel
structure Ah (σ:uG) (n:Nat):Prop where
 ok:Cc σ n
 may:σ.out.all bT=true
 wf:∀ e∈σ.out,rK e
 there:∀ k∈σ.there,1<=k/\k<=n
theorem W5 (v:Nat) (h:0<v) (k:v<=1000):bT { bC with k:=3,v:=(v:Nat) }=true:=by
 unfold bT
 rw [if_neg (by simp only;omega)]
 simp [bC]
 omega
theorem W7 (v n:Nat) (k:v<=1000) (hn:n<3):bT { bC with k:=4,v:=(v:Nat),x:=zD n }=true:=by
 unfold bT
 rw [if_neg (by simp only;omega)]
 have h1:=Nk n hn
 have h2:(zD n).length<=300:=by unfold zD;split<;>(try split)<;>simp
 simp [bC,h1,h2]
theorem W4 (v i:Nat) (k:v<=1000) (h1:1<=i) (h2:i<=1000):bT { bC with k:=2,v:=(v:Nat),i:=(i:Nat) }=true:=by
 unfold bT
 rw [if_neg (by simp only;omega)]
 simp [bC,my]
 omega
theorem W3 (v i t f o u:Nat) (k:v<=1000) (h1:1<=i) (h2:i<=1000) (h3:t<4) (h4:f<o) (h5:o<=100000):bT { k:=1,v:=(v:Nat),i:=(i:Nat),t:=(t:Nat),f:=(f:Nat),o:=(o:Nat),u:=(u:Nat),x:=[] }=true:=by
 unfold bT
 rw [if_neg (by simp only;omega)]
 simp [my]
 omega
theorem Ah.step {σ:uG} {n:Nat} (h:Ah σ n) (hn:n<40) (k:Nat):Ah (j4 σ k) (n+1):=by
 have ok:=h.ok.step k
 obtain ⟨⟨h1,h2,h3,h4,h5⟩,may,wf,there⟩:=h
 have all:∀ {l:List bA} {e:bA},l.all bT=true->bT e=true->(l++[e]).all bT=true:=fun a b=>by simp only [List.all_append,a,List.all_cons,b,List.all_nil];rfl
 have UT:∀ {l:List bA} {e:bA},(∀ x∈l,rK x)->rK e->∀ x∈l++[e],rK x:=fun a b x hx=>by
  rcases List.mem_append.1 hx with h | h
  · exact a x h
  · rw [List.mem_singleton.1 h];exact b
 have main:(j4 σ k).out.all bT=true/\(∀ e∈(j4 σ k).out,rK e)/\∀ i∈(j4 σ k).there,1<=i/\i<=n+1:=by
  unfold j4
  split
  · exact ⟨all may (W5 _ (by omega) (by omega)),UT wf ⟨by simp [bC],by simp [bC]⟩,fun x hx=>by have:=there x hx;omega⟩
  · split
    · exact ⟨all may (W7 _ _ (by omega) (Nat.mod_lt _ (by decide))),UT wf ⟨by simp [bC],by simp [bC]⟩,fun x hx=>by have:=there x hx;omega⟩
    · split
      · rename_i hc
        have hj:k / 8%σ.there.length<σ.there.length:=Nat.mod_lt _ hc.2
        have hm:=there _ (List.getElem_mem hj)
        refine ⟨all may (W4 _ _ (by omega) ?_ ?_),UT wf ⟨by simp [bC],by simp [bC]⟩,fun x hx => ?_⟩
        · rw [List.getD_eq_getElem?_getD,List.getElem?_eq_getElem hj,Option.getD_some];exact hm.1
        · rw [List.getD_eq_getElem?_getD,List.getElem?_eq_getElem hj,Option.getD_some];omega
        · have:x∈σ.there:=by
           rcases List.mem_append.1 hx with h | h
           · exact List.mem_of_mem_take h
           · exact List.mem_of_mem_drop h
          have:=there x this
          omega
      · have l3:k / 8%30<30:=Nat.mod_lt _ (by decide)
        refine ⟨all may (W3 _ _ _ _ _ _ (by omega) (by omega) (by omega) (Nat.mod_lt _ (by decide)) (by omega) (by omega)),UT wf ⟨by simp only;omega,by simp only;omega⟩,fun x hx => ?_⟩
        rcases List.mem_append.1 hx with h | h
        · have:=there x h;omega
        · rw [List.mem_singleton.1 h];omega
 exact ⟨ok,main.1,main.2.1,main.2.2⟩
section
variable {fs fs':List Fl} {bs cs:Bs} {l:List bA} {sure:Nat}
theorem iT.tot (h:iT fs bs):tot fs=bs.length:=by
 rcases h with ⟨rfl,rfl⟩ | ⟨f,rfl,_,hl⟩
 · rfl
 · simp [Go.Proofs.YtbohejffelipoaaGreatDoor.tot,hl,U]
theorem iT.grown (h:iT fs bs) (g:Grown fs fs' cs):iT fs' (bs++cs):=by
 have hU:∀ a b:Bs,U a++U b=U (a++b):=fun a b=>by simp [U]
 rcases h with ⟨rfl,rfl⟩ | ⟨f,rfl,hn,hl⟩
 · rcases g with ⟨k,f,x,hk,_⟩ | ⟨_,fb,x,rfl⟩
   · simp at hk
   · exact .inr ⟨_,rfl,rfl,rfl⟩
 · rcases g with ⟨k,f',x,hk,_,rfl⟩ | ⟨hno,_⟩
   · have hk0:k=0:=by
      have:=(List.getElem?_eq_some_iff.1 hk).1
      simp at this
      omega
     subst hk0
     simp at hk
     subst hk
     exact .inr ⟨_,rfl,hn,by show f.l++U cs=_;rw [hl,hU]⟩
   · exact absurd hn (hno f (by simp))
theorem iT.log (h:iT fs (aD l)) (hs:∀ f∈fs,f.sure=cH l sure) (hz:fs=[]->l=[]/\sure=0):kg fs l sure:=by
 rcases h with ⟨rfl,_⟩ | ⟨f,rfl,hn,hl⟩
 · exact .inr ⟨fun f hf=>(by cases hf),hz rfl⟩
 · exact .inl ⟨0,f,rfl,hn,hl,hs f (by simp)⟩
end
theorem qj (l:List bA) {i j:Nat} (h:i<=j):cH l i<=cH l j:=by
 unfold cH
 have:l.take j=l.take i++(l.take j).drop i:=by
  have h1:=(List.take_append_drop i (l.take j)).symm
  rwa [List.take_take,Nat.min_eq_left h] at h1
 rw [this,dV,List.length_append]
 omega
structure Zw (s0:St) (x:S) (D:oH) (u:St) (cx:S) (sure:Nat) (ks:List Nat) (ρ:Nat->Nat) (B:oH) (fs:List Fl):Prop where
 st:aY ρ u B 10000 fs (ks.map I3) (Nf ks) sure
 ol:iT fs (aD (ks.map I3))
 lg:kg fs (ks.map I3) sure
 cn:Ow 1 u cx ks.length (ks.map fun k:Nat=>S.int .i64 (k:Int))
 cr:∀ c,own cx=some c->ρ c=9/\s0.size<=c
 gr:s0.size<=u.size
 ro:∀ c,c<s0.size->ρ c=9
 kp:∀ c,c<s0.size->u.get c=s0.get c
 bl:B.p=D.p/\B.i=D.i/\B.m=D.m
 rg:∀ k∈ks,1<=k/\k<=64
section
variable {ρ ρ':Nat->Nat} {s0 s t u:St} {D E:oH} {room:Int} {fs fs':List Fl} {l es:List bA} {q:FoS} {sure:Nat} {i m:Nat} {e:bA} {y x cx:S} {v0 v1:T} {bs:Bs} {ks:List Nat} {is:List Int}
end
theorem sR (l:List dv) (a:dv):a∈nO l a/\∀ b∈l,b∈nO l a:=by
 unfold nO
 refine ⟨by simp,fun b hb => ?_⟩
 rw [← List.take_append_drop (kJ l a.i) l] at hb
 rcases List.mem_append.1 hb with h | h
 · exact List.mem_append_left _ h
 · exact List.mem_append_right _ (List.mem_cons_of_mem _ h)
theorem HB (l:List dv) (a:dv):(nO l a).length=l.length+1:=by
 unfold nO
 have:kJ l a.i<=l.length:=(List.takeWhile_sublist _).length_le
 rw [List.length_append,List.length_take,List.length_cons,List.length_drop]
 omega
theorem HT {l:List dv} {id:Int} (hp:l.Pairwise fun a b=>a.i<b.i) (ht:fZ l id=true):∃ y,l[kJ l id]? = some y/\y.i=id:=by
 have hk:=HV hp ht
 refine ⟨l[kJ l id],List.getElem?_eq_getElem hk,?_⟩
 obtain ⟨y,hy⟩:∃ y,y=l[kJ l id]:=⟨_,rfl⟩
 rw [← hy]
 have hyd:id<=y.i:=o8 hp (by rw [List.drop_eq_getElem_cons hk,← hy];exact List.mem_cons_self)
 obtain ⟨x,hx,ex⟩:=List.any_eq_true.1 ht
 have ET:x.i=id:=by simpa using ex
 rw [← List.take_append_drop (kJ l id) l,List.drop_eq_getElem_cons hk,← hy] at hx
 rcases List.mem_append.1 hx with h | h
 · have:=nS h
   omega
 · rcases List.mem_cons.1 h with h | h
   · rw [← h];exact ET
   · obtain ⟨j,hj⟩:=List.getElem?_of_mem h
     rw [List.getElem?_drop] at hj
     have hjl:=(List.getElem?_eq_some_iff.1 hj).1
     have h1:=List.pairwise_iff_getElem.1 hp (kJ l id) (kJ l id+1+j) hk hjl (by omega)
     rw [List.getElem?_eq_getElem hjl] at hj
     rw [Option.some.inj hj,← hy] at h1
     omega
theorem J8 {l:List dv} {id:Int} (hp:l.Pairwise fun a b=>a.i<b.i) (ht:fZ l id=true) {b:dv} (hb:b∈wE l id):b∈l/\b.i≠id:=by
 refine ⟨(yn l id).mem hb,?_⟩
 obtain ⟨y,hy,YT⟩:=HT hp ht
 have hk:=(List.getElem?_eq_some_iff.1 hy).1
 unfold wE at hb
 rcases List.mem_append.1 hb with h | h
 · have:=nS h
   omega
 · obtain ⟨j,hj⟩:=List.getElem?_of_mem h
   rw [List.getElem?_drop] at hj
   have hjl:=(List.getElem?_eq_some_iff.1 hj).1
   have h1:=List.pairwise_iff_getElem.1 hp (kJ l id) (kJ l id+1+j) hk hjl (by omega)
   rw [List.getElem?_eq_getElem hjl] at hj
   rw [List.getElem?_eq_getElem hk] at hy
   rw [Option.some.inj hj,Option.some.inj hy] at h1
   omega
theorem FR {l:List dv} {id:Int} (hp:l.Pairwise fun a b=>a.i<b.i) (ht:fZ l id=true) {b:dv} (hb:b∈l) (hne:b.i≠id):b∈wE l id:=by
 obtain ⟨y,hy,YT⟩:=HT hp ht
 have hk:=(List.getElem?_eq_some_iff.1 hy).1
 have Bc:y=l[kJ l id]:=by rw [List.getElem?_eq_getElem hk] at hy;exact (Option.some.inj hy).symm
 unfold wE
 rw [← List.take_append_drop (kJ l id) l,List.drop_eq_getElem_cons hk] at hb
 rcases List.mem_append.1 hb with h | h
 · exact List.mem_append_left _ h
 · rcases List.mem_cons.1 h with h | h
   · rw [← Bc] at h
     rw [h] at hne
     exact absurd YT hne
   · exact List.mem_append_right _ h
structure gU (vs:List FV) (l:List bA) (q:FoS) (sure:Nat):Prop where
 lg:Ag vs l sure
 nm:xZ vs
 JJ:∀ a∈q.l,kM vs a
 own:∀ v∈vs,v.nm≠dE->∃ a∈q.l,v.nm=bo a.i.toNat
 sub:∀ n,sure<=n->n<=l.length->∀ q',aZ kT (l.take n)=(0,q')->∀ a∈q'.l,a∈q.l
 w0:q.w=0
 fold:aZ kT l=(0,q)
 nd:(vs.map (·.nm)).Nodup
 su:sure<=l.length
section
variable {vs vs':List FV} {l:List bA} {q:FoS} {sure:Nat} {e:bA} {g:Sg} {k:Nat} {bs:Bs}
theorem iq {v:FV} (h:v∈dW bs vs):(v.nm=dE/\True)\/(v.nm≠dE/\v∈vs):=by
 unfold dW at h
 split at h
 · obtain ⟨w,hw,rfl⟩:=List.mem_map.1 h
   by_cases hn:w.nm=dE
   · rw [if_pos hn]
     exact .inl ⟨hn,trivial⟩
   · rw [if_neg hn]
     exact .inr ⟨hn,hw⟩
 · rename_i hh
   rcases List.mem_append.1 h with h | h
   · exact .inr ⟨fun e=>hh (gx.2 ⟨v,h,e⟩),h⟩
   · rw [List.mem_singleton] at h
     subst h
     exact .inl ⟨rfl,trivial⟩
theorem lJ (n:Bs) (vs:List FV):(gE n vs).map (·.nm)=vs.map (·.nm):=j9 (n:=n) (g:=fun v:FV=>⟨v.nm,v.l,v.l.length⟩) (fun _=>rfl) vs
theorem lU {v:FV} (h:v∈vs) (hn:v.nm≠dE):v∈dW bs vs:=by
 unfold dW
 split
 · exact List.mem_map.2 ⟨v,h,by rw [if_neg hn]⟩
 · exact List.mem_append_left _ h
theorem sK (h:(vs.map (·.nm)).Nodup):((dW bs vs).map (·.nm)).Nodup:=by
 unfold dW
 split
 · rw [j9 (n:=dE) (g:=fun v:FV=>⟨v.nm,v.l++U bs,v.sure⟩) (fun _=>rfl)];exact h
 · rename_i hh
   rw [List.map_append,List.nodup_append]
   refine ⟨h,by simp,fun a ha b hb => ?_⟩
   simp at hb
   rw [hb]
   intro e
   obtain ⟨v,hv,lh⟩:=List.mem_map.1 ha
   exact hh (gx.2 ⟨v,hv,by rw [lh,e]⟩)
theorem pE (h:Ag vs l sure) (hs:sure<=l.length):Ag (dW (aX (bp e)) vs) (l++[e]) sure:=by
 have hU:∀ a b:Bs,U a++U b=U (a++b):=fun a b=>by simp [U]
 rcases h with ⟨v,hv,a1,a2,a3⟩ | ⟨a1,rfl,rfl⟩
 · have hh:fS dE vs=true:=gx.2 ⟨v,hv,a1⟩
   refine .inl ⟨⟨v.nm,v.l++U (aX (bp e)),v.sure⟩,?_,a1,by rw [a2,hU,gX],by rw [jm _ _ hs];exact a3⟩
   unfold dW
   rw [if_pos hh]
   exact List.mem_map.2 ⟨v,hv,by rw [if_pos a1]⟩
 · have hh:fS dE vs=false:=dP.2 a1
   refine .inl ⟨⟨dE,U (aX (bp e)),0⟩,?_,rfl,by simp [aD],by rw [lE]⟩
   unfold dW
   rw [hh]
   simp
theorem tJ {a:dv} (h:kM vs a) (hv:∀ v∈vs,v.nm≠dE->v∈vs'):kM vs' a:=by
 obtain ⟨sg,k,h1,h2,h3,h4,h5,v,uq,hn,hl,hs⟩:=h
 exact ⟨sg,k,h1,h2,h3,h4,h5,v,hv v uq (by rw [hn];exact dr k),hn,hl,hs⟩
theorem zL {q':FoS} (h:gU vs l q sure) (ha:bz q e=0) (hsub:∀ a∈q.l,a∈q'.l) (hq:q'=cT q e):∀ n,sure<=n->n<=(l++[e]).length->∀ Qk,aZ kT ((l++[e]).take n)=(0,Qk)->∀ a∈Qk.l,a∈q'.l:=by
 intro n hn hnl Qk Mj a kG
 rw [List.length_append,List.length_singleton] at hnl
 by_cases hlt:n<=l.length
 · rw [List.take_append_of_le_length hlt] at Mj
   exact hsub a (h.sub n hn hlt Qk Mj a kG)
 · rw [List.take_of_length_le (by simp;omega),eZ h.fold ha] at Mj
   injection Mj with _ h2
   rw [hq,h2];exact kG
theorem gU.inst (h:gU vs l q sure) (hq:Ff q) (hg:jj g) (hk:g.i=(k:Int)) (uj:1<=k) (hk2:k<=64) (ha:bz q (gq g)=0):gU (dW (aX (bp (gq g))) (vs++[⟨bo k,U (bW g),(bW g).length⟩])) (l++[gq g]) (cT q (gq g)) sure:=by
 have hnl:cT q (gq g)=⟨nO q.l (gZ g),q.cW++[g.i],q.ie,q.v,0⟩:=rfl
 have hne:∀ a∈q.l,a.i≠g.i:=fun a kG e=>by
  have h1:=hq.ev a kG
  unfold bz at ha
  rw [if_pos (gv ha),if_pos ⟨rfl,by show g.i∈q.cW;rw [← e];exact h1⟩] at ha
  cases ha
 have hno:fS (bo k) vs=false:=dP.2 fun v hv e=>by
  obtain ⟨a,kG,hn⟩:=h.own v hv (by rw [e];exact dr k)
  have hr:=mj (h.JJ a kG)
  have:=lY ⟨uj,hk2⟩ (j:=a.i.toNat) ⟨by omega,by omega⟩ (by rw [← e,hn])
  exact hne a kG (by omega)
 obtain ⟨W,hW⟩:∃ W:FV,W=⟨bo k,U (bW g),(bW g).length⟩:=⟨_,rfl⟩
 rw [← hW]
 have QR:W.nm=bo k:=by rw [hW]
 have PJ:Ag (vs++[W]) l sure:=by
  rcases h.lg with ⟨v,hv,a1,a2,a3⟩ | ⟨a1,a2,a3⟩
  · exact .inl ⟨v,List.mem_append_left _ hv,a1,a2,a3⟩
  · refine .inr ⟨fun v hv => ?_,a2,a3⟩
    rcases List.mem_append.1 hv with hv | hv
    · exact a1 v hv
    · rw [List.mem_singleton] at hv;rw [hv,QR];exact dr k
 have hnd:((vs++[W]).map (·.nm)).Nodup:=by
  rw [List.map_append,List.nodup_append]
  refine ⟨h.nd,by simp,fun a G9 b hb e => ?_⟩
  simp at hb
  obtain ⟨v,hv,lh⟩:=List.mem_map.1 G9
  exact dP.1 hno v hv (by rw [lh,e,hb,QR])
 rw [hnl]
 refine ⟨pE PJ h.su,fun v hv => ?_,fun a kG => ?_,fun v hv lh => ?_,zL h ha (fun a kG=>(sR q.l (gZ g)).2 a kG) hnl.symm,rfl,by rw [eZ h.fold ha,hnl],sK hnd,by simp;have:=h.su;omega⟩
 · rcases iq hv with ⟨hn,_⟩ | ⟨hn,hv⟩
   · exact .inl hn
   · rcases List.mem_append.1 hv with hv | hv
     · exact h.nm v hv
     · rw [List.mem_singleton] at hv
       exact .inr ⟨k,uj,hk2,by rw [hv,QR]⟩
 · rcases sU kG with rfl | kG
   · exact ⟨g,k,rfl,hg,hk,uj,hk2,W,lU (by simp) (by rw [QR];exact dr k),QR,by rw [hW],by rw [hW];simp⟩
   · exact tJ (h.JJ a kG) fun v hv hn=>lU (List.mem_append_left _ hv) hn
 · rcases iq hv with ⟨hn,_⟩ | ⟨hn,hv⟩
   · exact absurd hn lh
   · rcases List.mem_append.1 hv with hv | hv
     · obtain ⟨a,kG,e⟩:=h.own v hv lh
       exact ⟨a,(sR q.l (gZ g)).2 a kG,e⟩
     · rw [List.mem_singleton] at hv
       refine ⟨gZ g,(sR q.l (gZ g)).1,?_⟩
       rw [hv,QR]
       show bo k=bo g.i.toNat
       rw [hk];rfl
theorem gU.put (h:gU vs l q sure) (uj:e.k≠1) (hk2:e.k≠2) (Rf:e.v=0) (ha:bz q e=0):gU (dW (aX (bp e)) vs) (l++[e]) (cT q e) sure:=by
 have xR:(cT q e).l=q.l/\(cT q e).w=0:=by
  unfold cT
  rw [if_neg uj,if_neg hk2]
  split
  · exact ⟨rfl,Rf⟩
  · exact ⟨rfl,Rf⟩
 refine ⟨pE h.lg h.su,fun v hv => ?_,fun a kG => ?_,fun v hv lh => ?_,zL h ha (fun a kG=>by rw [xR.1];exact kG) rfl,xR.2,eZ h.fold ha,sK h.nd,by simp;have:=h.su;omega⟩
 · rcases iq hv with ⟨hn,_⟩ | ⟨hn,hv⟩
   · exact .inl hn
   · exact h.nm v hv
 · rw [xR.1] at kG
   exact tJ (h.JJ a kG) fun v hv hn=>lU hv hn
 · rw [xR.1]
   rcases iq hv with ⟨hn,_⟩ | ⟨hn,hv⟩
   · exact absurd hn lh
   · exact h.own v hv lh
theorem mn {n:Bs} {v:FV} (h:v∈gE n vs):∃ w∈vs,v.nm=w.nm/\v.l=w.l/\(w.nm≠n->v=w)/\(w.nm=n->v.sure=v.l.length):=by
 obtain ⟨w,hw,rfl⟩:=List.mem_map.1 h
 by_cases hn:w.nm=n
 · rw [if_pos hn];exact ⟨w,hw,rfl,rfl,fun h=>absurd hn h,fun _=>rfl⟩
 · rw [if_neg hn];exact ⟨w,hw,rfl,rfl,fun _=>rfl,fun h=>absurd h hn⟩
theorem Jp {n:Bs} {f:FV->FV} {v:FV} (h:v∈vs) (hn:v.nm≠n):v∈fL n f vs:=List.mem_map.2 ⟨v,h,by rw [if_neg hn]⟩
theorem gU.sync (h:gU vs l q sure):gU (gE dE vs) l q l.length:=by
 refine ⟨?_,lZ (fun _=>rfl) h.nm,fun a ha=>ml (h.JJ a ha),fun v hv lh => ?_,fun n hn hnl q' pV a ha => ?_,h.w0,h.fold,by rw [lJ];exact h.nd,Nat.le_refl _⟩
 · rcases h.lg with ⟨v,hv,a1,a2,a3⟩ | ⟨a1,a2,a3⟩
   · refine .inl ⟨⟨v.nm,v.l,v.l.length⟩,List.mem_map.2 ⟨v,hv,by rw [if_pos a1]⟩,a1,a2,?_⟩
     show v.l.length=_
     rw [a2,ng,dD]
   · refine .inr ⟨fun v hv => ?_,a2,by rw [a2];rfl⟩
     obtain ⟨w,hw,e1,_⟩:=mn hv
     rw [e1];exact a1 w hw
 · obtain ⟨w,hw,e1,e2,e3,_⟩:=mn hv
   rw [e1] at lh ⊢
   exact h.own w hw lh
 · exact h.sub n (by have:=h.su;omega) hnl q' pV a ha
theorem gU.drop (h:gU vs l q sure) (hq:Ff q) (he:e.k=2) (Rf:e.v=0) (hi:e.i=(k:Int)) (ha:bz q e=0):gU (tD (bo k) (gE dE (dW (aX (bp e)) vs))) (l++[e]) (cT q e) (l++[e]).length:=by
 have hnl:cT q e=⟨wE q.l e.i,q.cW,q.ie,q.v,e.v⟩:=by unfold cT;rw [if_neg (by rw [he];decide),if_pos he]
 have SF:fZ q.l e.i=true:=by
  unfold bz at ha
  rw [if_pos (gv ha),if_neg (by rw [he];simp)] at ha
  by_cases ht:fZ q.l e.i=false
  · rw [if_pos ⟨he,ht⟩] at ha;cases ha
  · simpa using ht
 have hrk:1<=k/\k<=64:=by
  obtain ⟨c,hc,hci⟩:=List.any_eq_true.1 SF
  have aae:c.i=e.i:=of_decide_eq_true hci
  have:=mj (h.JJ c hc)
  omega
 have tT:∀ a∈wE q.l e.i,a∈q.l/\a.i≠e.i:=fun a kG=>J8 hq.up SF kG
 have gy:∀ v,v∈tD (bo k) (gE dE (dW (aX (bp e)) vs))->v.nm≠bo k/\v∈gE dE (dW (aX (bp e)) vs):=fun v hv=>by
  have:=List.mem_filter.1 hv
  exact ⟨by simpa using this.2,this.1⟩
 have PJ:=pE (e:=e) h.lg h.su
 rw [hnl]
 refine ⟨?_,fun v hv => ?_,fun a kG => ?_,fun v hv lh => ?_,fun n hn aao q' pV a kG => ?_,Rf,by rw [eZ h.fold ha,hnl],?_,Nat.le_refl _⟩
 · rcases PJ with ⟨v,hv,a1,a2,a3⟩ | ⟨a1,a2,a3⟩
   · refine .inl ⟨⟨v.nm,v.l,v.l.length⟩,List.mem_filter.2 ⟨List.mem_map.2 ⟨v,hv,by rw [if_pos a1]⟩,?_⟩,a1,a2,?_⟩
     · have:=dr k
       simp only [a1]
       simpa using fun e=>this e.symm
     · show v.l.length=_
       rw [a2,ng,dD]
   · simp at a2
 · obtain ⟨w,hw,e1,_⟩:=mn (gy v hv).2
   rw [e1]
   rcases iq hw with ⟨hn,_⟩ | ⟨hn,hw⟩
   · exact .inl hn
   · exact h.nm w hw
 · obtain ⟨kG,hai⟩:=tT a kG
   obtain ⟨sg,j,h1,h2,h3,h4,h5,v,hv,lh,hvl,hvs⟩:=h.JJ a kG
   refine ⟨sg,j,h1,h2,h3,h4,h5,v,List.mem_filter.2 ⟨Jp (lU hv (by rw [lh];exact dr j)) (by rw [lh];exact dr j),?_⟩,lh,hvl,hvs⟩
   have:v.nm≠bo k:=fun e=>hai (by
    rw [lh] at e
    have:=lY ⟨h4,h5⟩ hrk e
    rw [h1]
    show sg.i=_
    omega)
   simpa using this
 · obtain ⟨hnk,hv⟩:=gy v hv
   obtain ⟨w,hw,e1,_⟩:=mn hv
   rw [e1] at lh hnk ⊢
   rcases iq hw with ⟨hn,_⟩ | ⟨hn,hw⟩
   · exact absurd hn lh
   · obtain ⟨a,kG,ea⟩:=h.own w hw lh
     refine ⟨a,FR hq.up SF kG (fun e=>hnk (by rw [ea,e,hi];rfl)),ea⟩
 · have:n=(l++[e]).length:=by omega
   subst this
   rw [List.take_length,eZ h.fold ha,hnl] at pV
   injection pV with _ h2
   rw [← h2] at kG
   exact kG
 · refine List.Nodup.sublist (List.Sublist.map _ List.filter_sublist) ?_
   rw [lJ]
   exact sK h.nd
end
def gJ (K:Nat) (vs:List FV):List FV:=fL dE (fun v=>⟨v.nm,v.l.take K,K⟩) vs
section
variable {ρ ρ':Nat->Nat} {s t:St} {D:oH} {room:Int} {fs fs':List Fl} {l es:List bA} {q:FoS} {sure:Nat} {i m:Nat} {e:bA} {y:S} {bs:Bs} {kl:List Int} {vs:List FV}
theorem tc {vs:List FV} (h:(vs.map (·.nm)).Nodup) {v w:FV} (hv:v∈vs) (hw:w∈vs) (e:v.nm=w.nm):v=w:=by
 obtain ⟨i,hi⟩:=List.getElem?_of_mem hv
 obtain ⟨j,hj⟩:=List.getElem?_of_mem hw
 have:=(List.getElem?_inj (by rw [List.length_map];exact (List.getElem?_eq_some_iff.1 hi).1) h (j:=j)).1 (by rw [List.getElem?_map,List.getElem?_map,hi,hj];simp [e])
 subst this
 rw [hi] at hj
 exact Option.some.inj hj
theorem gU.Tz (h:gU vs l q sure) {v:FV} (hv:v∈vs) (hn:v.nm≠dE):v.sure=v.l.length:=by
 obtain ⟨a,ha,e⟩:=h.own v hv hn
 obtain ⟨g,k,h1,h2,h3,h4,h5,w,hw,CA,NU,vc⟩:=h.JJ a ha
 have:v=w:=tc h.nd hv hw (by
  rw [e,CA,h1]
  show bo g.i.toNat=_
  rw [h3];rfl)
 rw [this];exact vc
theorem wB (h:gU (cu fs) l q sure) (hc:Cb kl fs fs') (hle:∀ f∈fs,f.sure<=f.l.length):∃ K,cH l sure<=K/\K<=(aD l).length/\cu fs'=gJ K (cu fs):=by
 have hpl:cH l sure<=(aD l).length:=by rw [← dD];exact qj _ h.su
 have key:∀ K,(∀ f∈fs,f.nm=dE->ep kl fs f=K)->cu fs'=gJ K (cu fs):=by
  intro K hK
  apply List.ext_getElem?
  intro j
  unfold gJ fL cu
  rw [List.getElem?_map,List.getElem?_map,List.getElem?_map]
  cases hx:fs[j]? with
  | none =>
    have:fs'[j]? = none:=List.getElem?_eq_none (by have:=hc.len;have:=List.getElem?_eq_none_iff.1 hx;omega)
    rw [this];rfl
  | some f =>
    obtain ⟨x',hx',_⟩:=hc.at_ j f hx
    rw [hx']
    by_cases hn:f.nm=dE
    · rw [hK f (List.mem_of_getElem? hx) hn]
      simp [vw,hn]
    · have h1:=h.Tz (v:=vw f) (List.mem_map_of_mem (List.mem_of_getElem? hx)) hn
      have h2:ep kl fs f=f.l.length:=by
       unfold ep kz
       have:f.sure=f.l.length:=h1
       omega
      have h3:f.sure=f.l.length:=h1
      simp [vw,hn,h2,h3]
 cases hh:fS dE (cu fs) with
 | false =>
   refine ⟨cH l sure,Nat.le_refl _,hpl,key _ fun f hf hn=>absurd hn (iY hh f hf)⟩
 | true =>
   obtain ⟨k,f,hk,hn⟩:=jA hh
   have qE:=List.mem_of_getElem? hk
   have hlf:=hle f qE
   rcases h.lg with ⟨v,hv,a1,a2,a3⟩ | ⟨a1,_⟩
   · have hvf:v=vw f:=tc h.nd hv (List.mem_map_of_mem qE) (by rw [a1];exact hn.symm)
     rw [hvf] at a2 a3
     have e1:f.l.length=(aD l).length:=by
      have:f.l=U (aD l):=a2
      rw [this,ng]
     have e2:f.sure=cH l sure:=a3
     refine ⟨ep kl fs f,by unfold ep;omega,?_,key _ fun g hg VI => ?_⟩
     · have:=yS kl (uv fs f.nm) hlf
       unfold ep
       omega
     · have:vw g=vw f:=tc h.nd (List.mem_map_of_mem hg) (List.mem_map_of_mem qE) (by show g.nm=f.nm;rw [VI,hn])
       unfold ep kz
       have q1:g.nm=f.nm:=congrArg FV.nm this
       have q2:g.l=f.l:=congrArg FV.l this
       have q3:g.sure=f.sure:=congrArg FV.sure this
       rw [q1,q2,q3]
   · exact absurd hn (a1 (vw f) (List.mem_map_of_mem qE))
theorem yX (h:Ag vs l sure) (hnd:(vs.map (·.nm)).Nodup) {K:Nat}:Fh (gJ K vs) ((aD l).take K):=by
 refine ⟨fun v hv hn => ?_,fun hh => ?_⟩
 · obtain ⟨w,hw,rfl⟩:=List.mem_map.1 hv
   by_cases CA:w.nm=dE
   · rw [if_pos CA]
     rcases h with ⟨v',uq,a1,a2,a3⟩ | ⟨a1,_⟩
     · have:w=v':=tc hnd hw uq (by rw [CA,a1])
       rw [this]
       show v'.l.take K=_
       rw [a2,jJ]
     · exact absurd CA (a1 w hw)
   · rw [if_neg CA] at hn
     exact absurd hn CA
 · rcases h with ⟨v',uq,a1,a2,a3⟩ | ⟨_,a2,_⟩
   · have h1:fS dE (gJ K vs)=true:=gx.2 ⟨⟨v'.nm,v'.l.take K,K⟩,List.mem_map.2 ⟨v',uq,by rw [if_pos a1]⟩,a1⟩
     rw [h1] at hh;cases hh
   · rw [a2];simp [aD]
theorem wA (K:Nat) (vs:List FV):(gJ K vs).map (·.nm)=vs.map (·.nm):=j9 (n:=dE) (g:=fun v:FV=>⟨v.nm,v.l.take K,K⟩) (fun _=>rfl) vs
theorem Ax (n:Bs) (N:Nat) (vs:List FV):(Dv n N vs).map (·.nm)=vs.map (·.nm):=j9 (n:=n) (g:=fun v:FV=>⟨v.nm,v.l.take N,min v.sure N⟩) (fun _=>rfl) vs
def EZ (K N:Nat) (v:FV):FV:=if v.nm=dE then ⟨v.nm,(v.l.take K).take N,((v.l.take K).take N).length⟩ else v
theorem pI (K N:Nat) (v:FV):(EZ K N v).nm=v.nm:=by unfold EZ;split<;>rfl
theorem IP (K N:Nat) (vs:List FV):gE dE (Dv dE N (gJ K vs))=vs.map (EZ K N):=by
 unfold gE Dv gJ fL
 rw [List.map_map,List.map_map]
 apply List.map_congr_left
 intro v _
 unfold EZ
 by_cases hn:v.nm=dE
 · simp [hn]
 · simp [hn]
theorem gU.re {j K:Nat} {q2:FoS} (h:gU vs l q sure) (hj:j<=l.length) (Uk:(aD (l.take j)).length<=K) (hf:aZ kT (l.take j)=(0,q2)) (hsub:∀ a∈q2.l,a∈q.l) (JE:q2.w=0) :
 gU (qi q2.l (aD (l.take j)).length (gJ K vs)) (l.take j) q2 j:=by
 obtain ⟨N,hN⟩:∃ N,N=(aD (l.take j)).length:=⟨_,rfl⟩
 rw [← hN] at Uk ⊢
 have hjl:(l.take j).length=j:=by rw [List.length_take];omega
 have gy:∀ v,v∈qi q2.l N (gJ K vs)↔(∃ w∈vs,v=EZ K N w/\gz q2.l w.nm=true):=fun v=>by
  unfold qi
  rw [List.mem_filter,IP,List.mem_map]
  constructor
  · rintro ⟨⟨w,hw,rfl⟩,hk⟩
    exact ⟨w,hw,rfl,by rwa [pI] at hk⟩
  · rintro ⟨w,hw,rfl,hk⟩
    exact ⟨⟨w,hw,rfl⟩,by rwa [pI]⟩
 have Mm:∀ a∈q2.l,kM (qi q2.l N (gJ K vs)) a:=fun a ha=>by
  obtain ⟨g,k,h1,h2,h3,h4,h5,w,hw,CA,NU,vc⟩:=h.JJ a (hsub a ha)
  refine ⟨g,k,h1,h2,h3,h4,h5,w,(gy w).2 ⟨w,hw,?_,?_⟩,CA,NU,vc⟩
  · unfold EZ;rw [if_neg (by rw [CA];exact dr k)]
  · unfold gz
    rw [Bool.or_eq_true,List.any_eq_true]
    refine .inr ⟨a,ha,?_⟩
    rw [CA,h1]
    show (bo k == bo g.i.toNat)=true
    rw [h3]
    show (bo k == bo k)=true
    simp
 refine ⟨?_,fun v hv => ?_,Mm,fun v hv lh => ?_,fun n hn hnl q' pV a ha => ?_,JE,hf,?_,by omega⟩
 · rcases h.lg with ⟨w,hw,a1,a2,a3⟩ | ⟨a1,a2,a3⟩
   · refine .inl ⟨EZ K N w,(gy _).2 ⟨w,hw,rfl,by rw [a1];unfold gz;simp⟩,by rw [pI];exact a1,?_,?_⟩
     · unfold EZ
       rw [if_pos a1]
       show (w.l.take K).take N=_
       rw [a2,jJ,jJ,List.take_take,Nat.min_eq_left Uk]
       congr 1
       have h1:aD l=aD (l.take j)++aD (l.drop j):=by rw [← dV,List.take_append_drop]
       rw [h1,hN,List.take_left]
     · unfold EZ
       rw [if_pos a1]
       show ((w.l.take K).take N).length=_
       have h1:aD l=aD (l.take j)++aD (l.drop j):=by rw [← dV,List.take_append_drop]
       have h2:cH (l.take j) j=N:=by
        unfold cH
        rw [List.take_of_length_le (by omega),hN]
       rw [h2,a2,jJ,jJ,ng,List.length_take,List.length_take,h1,List.length_append]
       omega
   · refine .inr ⟨fun v hv => ?_,by rw [a2];simp,by rw [a2] at hj;simpa using hj⟩
     obtain ⟨w,hw,rfl,_⟩:=(gy v).1 hv
     rw [pI];exact a1 w hw
 · obtain ⟨w,hw,rfl,_⟩:=(gy v).1 hv
   rw [pI];exact h.nm w hw
 · obtain ⟨w,hw,rfl,hk⟩:=(gy v).1 hv
   rw [pI] at lh ⊢
   unfold gz at hk
   rw [Bool.or_eq_true] at hk
   rcases hk with hk | hk
   · exact absurd (eq_of_beq hk) lh
   · obtain ⟨a,ha,Px⟩:=List.any_eq_true.1 hk
     exact ⟨a,ha,eq_of_beq Px⟩
 · rw [hjl] at hnl
   have:n=j:=by omega
   subst this
   rw [List.take_take,Nat.min_self,hf] at pV
   injection pV with _ h2
   rw [← h2] at ha
   exact ha
 · unfold qi
   refine List.Nodup.sublist (List.Sublist.map _ List.filter_sublist) ?_
   rw [lJ,Ax,wA]
   exact h.nd
theorem Nd (h:gU vs l q l.length):qi q.l (aD l).length (gJ (aD l).length vs)=vs:=by
 unfold qi
 rw [IP]
 have h1:vs.map (EZ (aD l).length (aD l).length)=vs:=by
  have:∀ v∈vs,EZ (aD l).length (aD l).length v=v:=fun v hv=>by
   unfold EZ
   by_cases hn:v.nm=dE
   · rw [if_pos hn]
     rcases h.lg with ⟨w,hw,a1,a2,a3⟩ | ⟨a1,_⟩
     · have:v=w:=tc h.nd hv hw (by rw [hn,a1])
       subst this
       have h2:v.l.length=(aD l).length:=by rw [a2,ng]
       have h3:(v.l.take (aD l).length).take (aD l).length=v.l:=by rw [← h2,List.take_length,List.take_length]
       rw [h3]
       cases v
       simp only at a3 h2 ⊢
       rw [a3,h2,dD]
     · exact absurd hn (a1 v hv)
   · rw [if_neg hn]
  conv=>rhs;rw [← List.map_id vs]
  exact List.map_congr_left this
 rw [h1]
 refine List.filter_eq_self.2 fun v hv => ?_
 unfold gz
 rw [Bool.or_eq_true]
 by_cases hn:v.nm=dE
 · exact .inl (by simp [hn])
 · obtain ⟨a,ha,e⟩:=h.own v hv hn
   exact .inr (List.any_eq_true.2 ⟨a,ha,by simp [e]⟩)
set_option maxHeartbeats 2000000 in
theorem BJ (d:Nat) (h:aY ρ s D room fs l q sure) (hi:gU (cu fs) l q sure) (PI:(aD l).length<=7900) (hfl:fs.length<=1000) (hy:Rd 1 s y kl.length (kl.map (S.int .i64))) (JF:∀ c,own y=some c->c<s.size/\7<=ρ c) :
 ∃ s1 ρ' D' fs' t j q2,R (d+13) 25 [Z (.ptr D.i 0),Z y] s=some (.eD [],s1)/\R (d+13) 14 [Z (.ptr D.i 0)] s1=some (.eD [.s (.ptr D'.p 0),.s (.int .i64 0)],t)/\aY ρ' t D' room fs' (l.take j) q2 j/\gU (cu fs') (l.take j) q2 j ∧
   sure<=j/\j<=l.length/\(D'.i=D.i/\D'.m=D.m)/\K7 ρ ρ' s t/\(sure=l.length->cu fs'=cu fs/\q2=q):=by
 have r:=h.ro
 have hlen:∀ f∈fs,f.nm.length<=1000:=fun f hf=>by
  rcases hi.nm (vw f) (List.mem_map_of_mem hf) with e | ⟨k,_,_,e⟩
  · rw [show f.nm=dE from e];decide
  · rw [show f.nm=bo k from e];have:=jD (k:=k);omega
 obtain ⟨fs1,s1,e1,k1,c1,z1,o1⟩:=Ay (d+11) h.dk hlen hfl hy (fun c hc=>⟨(JF c hc).1,fun f hf e=>by have h1:=(JF c hc).2;have h2:=r.fb f hf;rw [← e] at h2;omega⟩)
 have hle:∀ f∈fs,f.sure<=f.l.length:=fun f hf=>by
  obtain ⟨k,hk⟩:=List.getElem?_of_mem hf
  exact (h.dk.fl k f hk).2.2.1
 obtain ⟨K,Z9,hK1,Mn⟩:=wB hi c1 hle
 obtain ⟨hall,hok,cM⟩:=h.ok
 obtain ⟨j,hj,Rc,Uk,hjn,YC⟩:=Jj hall h.wf h.Co hK1
 obtain ⟨q2,o7,VD⟩:=yD h.fo j
 have hsj:sure<=j:=by
  apply Nat.le_of_not_lt
  intro hlt
  have h1:=qj l (i:=j+1) (j:=sure) hlt
  have hsu:=hi.su
  have hjl:j<l.length:=by omega
  have h2:=hjn hjl
  have h3:cH l (j+1)=(aD (l.take j)).length+(aX (bp l[j])).length:=by
   unfold cH
   rw [List.take_add_one,List.getElem?_eq_getElem hjl,dV,List.length_append]
   simp [aD]
  omega
 have hsub:=hi.sub j hsj hj q2 o7
 obtain ⟨_,V7,VC⟩:=oU o7 AO
 have aaf:=h.Co
 have We:q2.l.length<=8000:=by
  have:=V7.len
  simp [kT] at VC
  omega
 have JE:∀ (es:List bA) (qa qb:FoS),aZ qa es=(0,qb)->qb.w=0->qa.w<=0:=by
  intro es
  induction es with
  | nil=>intro qa qb h1 h2;cases h1;omega
  | cons e es ih =>
    intro qa qb h1 h2
    simp only [aZ] at h1
    by_cases ha:bz qa e=0
    · rw [if_pos ha] at h1
      have h3:=ih _ _ h1 h2
      have h4:(cT qa e).w=e.v:=by
       unfold cT
       split
       · rfl
       · split
         · rfl
         · split<;>rfl
      have h5:qa.w<=e.v:=by
       unfold bz at ha
       rw [if_pos (gv ha)] at ha
       apply Int.not_lt.1
       intro hlt
       rw [if_pos hlt] at ha
       split at ha
       · cases ha
       · split at ha<;>cases ha
      omega
    · rw [if_neg ha] at h1
      injection h1 with h1 _
      exact absurd h1 ha
 have Ht:q2.w=0:=by
  have h1:=JE (l.drop j) q2 q VD hi.w0
  have h2:0<=q2.w:=by
   have gen:∀ (es:List bA) (qa qb:FoS),aZ qa es=(0,qb)->0<=qa.w->0<=qb.w:=by
    intro es
    induction es with
    | nil=>intro qa qb h1 h2;cases h1;exact h2
    | cons e es ih =>
      intro qa qb h1 h2
      simp only [aZ] at h1
      by_cases ha:bz qa e=0
      · rw [if_pos ha] at h1
        refine ih _ _ h1 ?_
        have h4:(cT qa e).w=e.v:=by
         unfold cT
         split
         · rfl
         · split
           · rfl
           · split<;>rfl
        rw [h4]
        have:=(dY (gv ha)).1
        exact this
      · rw [if_neg ha] at h1
        injection h1 with h1 _
        exact absurd h1 ha
   exact gen _ _ _ o7 (by decide)
  omega
 have PJ:=yX (K:=K) hi.lg hi.nd
 rw [← Mn] at PJ
 have hNK:(aD (l.take j)).length<=((aD l).take K).length:=by rw [List.length_take];omega
 have hre:=hi.re hj Uk o7 hsub Ht
 obtain ⟨ρ',D',fs',t,e2,h2,v2,hD,hk⟩:=uY (ρ:=ρ) d k1 PJ (by rw [Mn];exact lZ (fun _=>rfl) hi.nm) (by have:=c1.len;omega) r.i r.m (fun f hf=>by
  obtain ⟨k,Q6⟩:=List.getElem?_of_mem hf
  have hlt:k<fs.length:=by have:=(List.getElem?_eq_some_iff.1 Q6).1;have:=c1.len;omega
  obtain ⟨x',hx',ho⟩:=c1.at_ k fs[k] (List.getElem?_eq_getElem hlt)
  rw [Q6] at hx'
  have:=Option.some.inj hx'
  subst this
  have hm:=List.getElem_mem hlt
  refine ⟨(r.fb fs[k] hm:ρ fs[k].fb=0),fun c hc => ?_⟩
  rcases ho with e | e
  · rw [show ({ fs[k] with x:=x',l:=_,sure:=_ }:Fl).x=x' from rfl,e] at hc;cases hc
  · exact r.fx fs[k] hm c (by rw [← e];exact hc)) (by rw [List.length_take];omega) Rc rfl hNK o7 (fun a ha=>by rw [Mn];exact ml (hi.JJ a (hsub a ha))) We (fun e he=>h.wf e (List.mem_of_mem_take he)) (by rw [List.length_take];omega)
 rw [Mn] at v2
 have hjt:(l.take j).length=j:=by rw [List.length_take];omega
 rw [hjt] at h2
 refine ⟨s1,ρ',D',fs',t,j,q2,e1,e2,h2,by rw [v2];exact hre,hsj,hj,hD,⟨by have:=hk.sz;omega,fun c hc=>hk.ro c (by omega),fun c hc hr => ?_⟩,fun tT => ?_⟩
 · rw [hk.kp c (by omega) hr,o1 c hc fun f hf e=>by have:=r.fb f hf;rw [← e] at this;omega]
 · have hjl:j=l.length:=by omega
   subst hjl
   rw [List.take_length] at o7 v2
   have Wf:q2=q:=by
    have:=h.fo
    rw [o7] at this
    injection this
   subst Wf
   have hKe:K=(aD l).length:=by
    rw [tT,dD] at Z9
    omega
   rw [hKe] at v2
   rw [tT] at hi
   exact ⟨by rw [v2];exact Nd hi,rfl⟩
end
section
variable {s t:St} {x y:S} {bs cs:List UInt8}
theorem ew (d:Nat) (wf:s.wf) (n:Nat) (hn:n<2 ^ 64):∃ t,R (d+1) 71 [I .u64 n] s=some (Z (.str (aP n)),t)/\Gr s t:=by
 rw [LC]
 unfold f71
 obtain ⟨m,x,acc,τ,lp,hF,hm,nK⟩:=vR (R d) wf n hn
 have WY:loops (G0 (R d) 8192) 8192 [I .u64 n,Z .az] s=some (.exit 0 [I .u64 m,Z x],τ):=lp
 have nw:=MC τ m
 have hb:(UInt8.ofNat m).toNat=m:=by rw [dU];omega
 obtain ⟨x',t,ap,NB,_⟩:=FB.lit hF (cs:=[UInt8.ofNat m]) (by simp;omega)
 rw [nK.1] at NB
 refine ⟨t,?_,NB.gr⟩
 have hw:IntKind.u8.wrap (m:Int)=(m:Int):=by rw [fH];omega
 have hs:=RB.str NB.rd
 simp only [U,List.map_cons,List.map_nil,List.length_cons,List.length_nil,Nat.zero_add,hb] at ap
 simp [WY,hw,nw,ap,hs]
theorem G2 (d:Nat) (wf:s.wf) (q:Nat):∃ t,R (d+1) 74 [I .u32 q] s=some (Z (.str (four q)),t)/\Gr s t:=by
 rw [LF]
 unfold f74
 have nw:=P9 s (q%256) (q / 2 ^ 8%256) (q / 2 ^ 16%256) (q / 2 ^ 24%256)
 have hU:U (four q)=[.int .u8 (q%256:Nat),.int .u8 (q / 2 ^ 8%256:Nat),.int .u8 (q / 2 ^ 16%256:Nat),.int .u8 (q / 2 ^ 24%256:Nat)]:=by
  simp only [U,four,List.map_cons,List.map_nil,dU]
 rw [← hU] at nw
 have c0:=fH q
 have c1:=fH (q / 2 ^ 8)
 have c2:=fH (q / 2 ^ 16)
 have c3:=fH (q / 2 ^ 24)
 have r1:af .shr (I .u32 q) (I .u64 8)=some (I .u32 ((q / 2 ^ 8:Nat))):=eS .u32 q 8 (by decide)
 have r2:af .shr (I .u32 q) (I .u64 16)=some (I .u32 ((q / 2 ^ 16:Nat))):=eS .u32 q 16 (by decide)
 have r3:af .shr (I .u32 q) (I .u64 24)=some (I .u32 ((q / 2 ^ 24:Nat))):=eS .u32 q 24 (by decide)
 have g:Gr s (s.push (.cells true (U (four q)))):=Gr.push wf _
 have rd:RB (s.push (.cells true (U (four q)))) (.sl s.size 0 4 (.known 4)) (four q):=(Fr.lit 1 wf (n:=4) (vs:=U (four q)) rfl).rd
 have hs:=rd.str
 refine ⟨_,?_,g⟩
 generalize s.push (.cells true (U (four q)))=t at nw hs ⊢
 generalize ((q / 2 ^ 8%256:Nat):Int)=Q1 at nw c1
 generalize ((q / 2 ^ 16%256:Nat):Int)=Q2 at nw c2
 generalize ((q / 2 ^ 24%256:Nat):Int)=Q3 at nw c3
 generalize ((q%256:Nat):Int)=Q0 at nw c0
 generalize ((q / 2 ^ 8:Nat):Int)=P1 at r1 c1
 generalize ((q / 2 ^ 16:Nat):Int)=P2 at r2 c2
 generalize ((q / 2 ^ 24:Nat):Int)=P3 at r3 c3
 generalize (q:Int)=Q at *
 simp [c0,c1,c2,c3,r1,r2,r3,nw,hs]
theorem I2 (d:Nat) (hl:bs.length<=8000):R (d+2) 75 [Z (.str bs)] s=some (I .u32 (bN 1 bs),s):=by
 have key:R (d+1) 117 [I .u32 1,Z (.str bs)] s=some (I .u32 (bN 1 bs),s):=by
  rw [Gc]
  unfold f117
  have eC:=MB bs
  obtain ⟨j,τ,lp,hj,pW⟩:=aW (f:=qS (R d) 8192) (fun q v u=>∃ k n:Nat,q+k=bs.length/\v=[Z (.str bs),I .u64 n,I .i64 k]/\u=s/\n<4294967291/\bN n (bs.drop k)=bN 1 bs)
   (fun j u=>j = .exit 0 [I .u64 (bN 1 bs)]/\u=s) (by
   rintro q v u ⟨k,n,hk,rfl,rfl,hn,hg⟩
   by_cases eU:k<bs.length
   · left
     have hc:bs[k]? = some bs[k]:=List.getElem?_eq_getElem eU
     have hd:bs.drop k=bs[k]::bs.drop (k+1):=List.drop_eq_getElem_cons eU
     rw [hd] at hg
     have ix:=wg (n:=(k:Int)) rfl hc
     have PC:bs[k].toNat<256:=bs[k].toNat_lt
     obtain ⟨A1,A2,A3,A4,RV,m1,m2,m3,m4⟩:∃ A1 A2 A3 A4:Int,A4=(((n*257+bs[k].toNat+1)%4294967291:Nat):Int)/\af .mul (I .u64 n) (I .u64 257)=some (I .u64 A1)/\af .add (I .u64 A1) (I .u64 bs[k].toNat)=some (I .u64 A2) ∧
      af .add (I .u64 A2) (I .u64 1)=some (I .u64 A3)/\af .rem (I .u64 A3) (I .u64 4294967291)=some (I .u64 A4):=⟨_,_,_,_,rfl,Oa.step n bs[k].toNat hn PC u⟩
     have hw:IntKind.u64.wrap (bs[k].toNat:Int)=(bs[k].toNat:Int):=wrap64 _ (by omega)
     have w1:IntKind.i64.wrap ((k:Int)+1)=((k+1:Nat):Int):=by rw [aB _ (by omega) (by omega)];omega
     have c0:((k:Int)<(bs.length:Int))=True:=eq_true (by omega)
     refine ⟨[Z (.str bs),I .u64 (((n*257+bs[k].toNat+1)%4294967291:Nat)),I .i64 ((k+1:Nat):Int)],u,q-1,?_,by omega,k+1,_,by omega,rfl,rfl,Nat.mod_lt _ (by decide),hg⟩
     unfold qS
     generalize ((k+1:Nat):Int)=K1 at w1 ⊢
     rw [← RV]
     generalize (bs[k].toNat:Int)=C at m2 ix hw
     generalize (k:Int)=K at w1 ix c0 ⊢
     simp only [pj,fm,List.getD_cons_zero,List.getD_cons_succ,eC,wY,iV,decide_true,c0,ix,m1,m2,m3,m4,aV,hw,dm,w1]
   · right
     have hk':k=bs.length:=by omega
     have c0:¬ ((k:Int)<(bs.length:Int)):=by omega
     have uW:n=bN 1 bs:=by
      rw [List.drop_eq_nil_of_le (by omega)] at hg
      exact hg
     refine ⟨.exit 0 [I .u64 (bN 1 bs)],u,?_,(fun v hv=>by cases hv),rfl,rfl⟩
     unfold qS
     rw [uW]
     simp [eC,c0]) 8192 bs.length [Z (.str bs),I .u64 1,I .i64 0] s ⟨0,1,rfl,rfl,rfl,by decide,rfl⟩ (by omega)
  subst hj;subst pW
  have hlt:=j7 bs 1 (by decide)
  have Pp:IntKind.u32.wrap (bN 1 bs:Int)=(bN 1 bs:Int):=by rw [wrap32,Nat.mod_eq_of_lt (by omega)]
  have e1:aF .u64 (I .u32 1)=some (I .u64 1):=rfl
  have e2:af .rem (I .u64 1) (I .u64 4294967291)=some (I .u64 1):=rfl
  simp [e1,e2,lp,Pp]
 rw [LG]
 unfold f75
 simp [key]
end
section
variable {s t u s0:St} {x y b lx bx:S} {l acc:List eQ} {bs:Bs} {p:Nat} {r:Rr} {g:Sg}
theorem tI (d:Nat) {n:Int} (h:I6 n):R (d+1) 115 [I .i64 n] s=some (I .u64 (dB n:Nat),s):=by
 rw [Gb]
 unfold f115
 obtain ⟨h1,h2⟩:=h
 by_cases hn:0<=n
 · obtain ⟨m,hm⟩:∃ m:Nat,(m:Int)=n:=⟨n.toNat,by omega⟩
   subst hm
   have e1:aF .u64 (I .i64 (m:Int))=some (I .u64 (m:Int)):=by rw [aV,wrap64 _ (by omega)]
   have e2:IntKind.u64.wrap ((m:Int)*2)=((dB m:Nat):Int):=by
    have:dB m=m*2:=by unfold dB;rw [if_neg (by omega)];omega
    rw [this,show (m:Int)*2=((m*2:Nat):Int) by omega,wrap64 _ (by omega)]
   generalize ((dB m:Nat):Int)=z at *
   have na:(0:Int)<=(m:Int):=hn
   generalize (m:Int)=mm at *
   simp [na,e1,e2]
 · obtain ⟨m,hm⟩:∃ m:Nat,(m:Int) = -n-1:=⟨(-n-1).toNat,by omega⟩
   have w1:IntKind.i64.wrap (n+1)=n+1:=aB _ (by omega) (by omega)
   have w2:jO .neg (I .i64 (n+1))=some (I .i64 (m:Int)):=by
    show some (I .i64 (IntKind.i64.wrap (0-(n+1))))=_
    rw [show 0-(n+1)=(m:Int) by omega,qC _ (by omega)]
   have e1:aF .u64 (I .i64 (m:Int))=some (I .u64 (m:Int)):=by rw [aV,wrap64 _ (by omega)]
   have e2:IntKind.u64.wrap ((m:Int)*2)=((m*2:Nat):Int):=by rw [show (m:Int)*2=((m*2:Nat):Int) by omega,wrap64 _ (by omega)]
   have e3:IntKind.u64.wrap (((m*2:Nat):Int)+1)=((dB n:Nat):Int):=by
    have:dB n=m*2+1:=by unfold dB;rw [if_pos (by omega)];omega
    rw [this,show ((m*2:Nat):Int)+1=((m*2+1:Nat):Int) by omega,wrap64 _ (by omega)]
   clear hm
   generalize ((dB n:Nat):Int)=z at *
   generalize ((m*2:Nat):Int)=m2 at *
   generalize (m:Int)=mm at *
   simp [hn,w1,w2,e1,e2,e3]
theorem tE:∀ (l:List eQ) (last:Int),-1<=last->cC last l=true->∀ (k:Nat) (a:eQ),l[k]? = some a->(0:Int)<=a.t/\a.t<=1099511627776/\(∀ b:eQ,0<k->l[k-1]? = some b->b.t<a.t)
 | [],_,_,_,k,a,h=>by simp at h
 | x::r,last,hl,hr,k,a,h=>by
   simp only [cC,Bool.and_eq_true,decide_eq_true_eq] at hr
   cases k with
   | zero =>
     simp at h
     subst h
     exact ⟨by omega,hr.1.2,fun b hb=>by omega⟩
   | succ k =>
     simp at h
     obtain ⟨h1,h2,h3⟩:=tE r x.t (by omega) hr.2 k a h
     refine ⟨h1,h2,fun b _ hb => ?_⟩
     rw [Nat.add_sub_cancel] at hb
     cases k with
     | zero =>
       simp at hb
       subst hb
       exact (iI hr.2 a (List.mem_of_getElem? h)).1
     | succ k=>exact h3 b (by omega) (by simpa using hb)
theorem qq (d:Nat) (h:oG s x l) (hl:l.length<=8000) (hr:cC (-1) l=true):R (d+1) 112 [Z x] s=some (B true,s):=by
 have ll:=h.lens
 have hall:=tE l (-1) (by omega) hr
 obtain ⟨j,τ,lp,rfl,rfl⟩:=aW (f:=qR (R d) 8192)
  (fun q v u=>∃ (k:Nat),q+k=l.length/\v=[Z x,I .i64 (k:Nat)]/\u=s)
  (fun j u=>j = .exit 0 []/\u=s) (by
  rintro q v u ⟨k,hq,rfl,rfl⟩
  by_cases hk:k<l.length
  · left
    obtain ⟨a,ha⟩:∃ a,l[k]? = some a:=⟨_,List.getElem?_eq_getElem hk⟩
    obtain ⟨h1,h2,h3⟩:=hall k a ha
    obtain ⟨c,p,ix,_,lt,_⟩:=oG.Dm h (n:=((k:Nat):Int)) rfl ha
    have c0:((k:Nat):Int)<((l.length:Nat):Int):=by omega
    have c1:¬ a.t<0:=by omega
    have c2:¬ 1099511627776<a.t:=by omega
    have w1:IntKind.i64.wrap ((k:Int)+1)=((k+1:Nat):Int):=by rw [aB _ (by omega) (by omega)];omega
    refine ⟨[Z x,I .i64 ((k+1:Nat):Int)],u,q-1,?_,by omega,k+1,by omega,rfl,rfl⟩
    unfold qR
    cases k with
    | zero =>
      have k0:((0:Nat):Int)=0:=rfl
      rw [k0] at ix c0 w1
      generalize ((0+1:Nat):Int)=K1 at *
      generalize ((l.length:Nat):Int)=LL at *
      have Fb:IntKind.i64.wrap 1=K1:=by simpa using w1
      simp [ll,c0,ix,lt,c1,c2,kF,Fb]
    | succ k =>
      obtain ⟨b,hb⟩:∃ b,l[k]? = some b:=⟨_,List.getElem?_eq_getElem (by omega)⟩
      have h4:=h3 b (by omega) (by simpa using hb)
      obtain ⟨c',p',EV,_,S8,_⟩:=oG.Dm h (n:=((k:Nat):Int)) rfl hb
      have w2:IntKind.i64.wrap (((k+1:Nat):Int)-1)=((k:Nat):Int):=by rw [aB _ (by omega) (by omega)];omega
      have c3:0<((k+1:Nat):Int):=by omega
      have c4:¬ a.t<=b.t:=by omega
      generalize ((k+1+1:Nat):Int)=K2 at *
      generalize ((k+1:Nat):Int)=K1 at *
      generalize ((k:Nat):Int)=K0 at *
      generalize ((l.length:Nat):Int)=LL at *
      simp [ll,c0,ix,lt,c1,c2,c3,w2,EV,S8,c4,kF,w1]
  · right
    have hkk:k=l.length:=by omega
    subst hkk
    refine ⟨.exit 0 [],u,?_,(fun v h=>by cases h),rfl,rfl⟩
    unfold qR
    generalize ((l.length:Nat):Int)=LL at *
    simp [ll])
  8192 l.length _ s ⟨0,by omega,rfl,rfl⟩ (by omega)
 rw [Ga]
 unfold f112
 have e0:((0:Nat):Int)=0:=rfl
 rw [e0] at lp
 simp [lp]
set_option maxHeartbeats 4000000 in
theorem BG (d:Nat) {k:Nat} {step:Int} {acc rest:Bs} (wf:u.wf) (h:oG u x l) (eH:∀ c,own x=some c->c<u.size) (hr:nf l k step rest) (hk:k<l.length) (hl:l.length<=64) (ht:∀ a∈l,I6 a.t/\0<=a.t/\I6 a.v) (ha:acc.length<=22*k+11) :
 ∃ u' je kD rest',oS (R (d+1)) 8192 [Z x,Z (.str acc),I .i64 step,I .i64 (k:Nat)] u=some (.normal [Z x,Z (.str kD),I .i64 je,I .i64 ((k+1:Nat):Int)],u') ∧
   Gr u u'/\nf l (k+1) je rest'/\kD++rest'=acc++rest/\kD.length<=22*(k+1)+11:=by
 have c0:((k:Nat):Int)<((l.length:Nat):Int):=by omega
 have ll:=h.lens
 have w1:IntKind.i64.wrap ((k:Int)+1)=((k+1:Nat):Int):=by rw [aB _ (by omega) (by omega)];omega
 obtain ⟨a,Px⟩:∃ a,a=l[k]:=⟨_,rfl⟩
 have Cv:l[k]? = some a:=by rw [List.getElem?_eq_getElem hk,Px]
 obtain ⟨xL,ZA,Ny⟩:=ht a (List.mem_of_getElem? Cv)
 obtain ⟨c,p,ix,_,lt,lv⟩:=oG.Dm h (n:=((k:Nat):Int)) rfl Cv
 have mv:=eH c (nW ix)
 have vl:∀ n,(aP n).length<=11:=bG
 rcases hr with ⟨rfl,rfl,⟨rfl,_⟩ | ⟨a',r,rfl,rfl⟩⟩ | ⟨j,was,rfl,hj,hst,rfl⟩
 · simp at hk
 · have:a'=a:=by simpa using Cv
   subst this
   have c1:aF .u64 (I .i64 a'.t)=some (I .u64 (a'.t.toNat:Nat)):=by
    have h1:a'.t=(a'.t.toNat:Int):=by omega
    have h2:=xL.2
    rw [aV]
    have:=wrap64 a'.t.toNat (by omega)
    rw [← h1] at this
    rw [this]
    congr 3
   obtain ⟨u3,e3,g3⟩:=ew d wf a'.t.toNat (by have:=xL.2;omega)
   have s3:=gl acc (aP a'.t.toNat) (by have:=vl a'.t.toNat;omega)
   have WZ:ab (Z (.ptr c (p+1))) u3.get=some (I .i64 a'.v):=by rw [py (g3.2.2 c mv)];exact lv
   have e5:=tI (s:=u3) d Ny
   obtain ⟨u6,e6,g6⟩:=ew d g3.wf (dB a'.v) (ke Ny)
   have s6:=gl (acc++aP a'.t.toNat) (aP (dB a'.v)) (by have:=vl a'.t.toNat;have:=vl (dB a'.v);rw [List.length_append];omega)
   refine ⟨u6,0,(acc++aP a'.t.toNat)++aP (dB a'.v),fK 0 a' r,?_,g3.trans g6,.inr ⟨0,a',rfl,rfl,by unfold I6;omega,rfl⟩,by simp [iD,List.append_assoc],by have:=vl a'.t.toNat;have:=vl (dB a'.v);rw [List.length_append,List.length_append];omega⟩
   unfold oS
   have k0:((0:Nat):Int)=0:=rfl
   rw [k0] at ix c0
   have w1:IntKind.i64.wrap 1=((0+1:Nat):Int):=rfl
   generalize R (d+1)=rr at *
   generalize acc++aP a'.t.toNat=A1 at *
   generalize A1++aP (dB a'.v)=A2 at *
   generalize aP a'.t.toNat=V1 at *
   generalize dB a'.v=zv at *
   generalize aP zv=V2 at *
   generalize ((zv:Nat):Int)=zz at *
   generalize ((a'.t.toNat:Nat):Int)=tn at *
   generalize ((0+1:Nat):Int)=K1 at *
   generalize (((a'::r).length:Nat):Int)=LL at *
   simp [ll,c0,ix,lt,c1,e3,s3,lv,WZ,e5,e6,s6,w1]
 · have Wu:=ht was (List.mem_of_getElem? hj)
   have c1:¬ ((j+1:Nat):Int)=0:=by omega
   have w2:IntKind.i64.wrap (((j+1:Nat):Int)-1)=((j:Nat):Int):=by rw [aB _ (by omega) (by omega)];omega
   obtain ⟨c',p',EV,_,S8,Qc⟩:=oG.Dm h (n:=((j:Nat):Int)) rfl hj
   have e5:=tI (s:=u) d (iL (W6 (a.t-was.t)-step))
   obtain ⟨u3,e3,g3⟩:=ew d wf (dB (W6 (W6 (a.t-was.t)-step))) (ke (iL _))
   have s3:=gl acc (aP (dB (W6 (W6 (a.t-was.t)-step)))) (by have:=vl (dB (W6 (W6 (a.t-was.t)-step)));omega)
   have e8:=tI (s:=u3) d (iL (a.v-was.v))
   obtain ⟨u6,e6,g6⟩:=ew d g3.wf (dB (W6 (a.v-was.v))) (ke (iL _))
   have s6:=gl (acc++aP (dB (W6 (W6 (a.t-was.t)-step)))) (aP (dB (W6 (a.v-was.v)))) (by have:=vl (dB (W6 (W6 (a.t-was.t)-step)));have:=vl (dB (W6 (a.v-was.v)));rw [List.length_append];omega)
   have mE:l.drop (j+1)=a::l.drop (j+1+1):=by rw [List.drop_eq_getElem_cons hk,Px]
   have hv:∀ n:Int,∃ m,aF .u64 (I .i64 n)=some (I .u64 m)/\∃ k:Int,m=n+18446744073709551616*k:=fun n=>by
    refine ⟨_,aV _ _ _,?_⟩
    unfold IntKind.wrap
    simp [IntKind.signed,IntKind.bits]
    exact ⟨-(n / 18446744073709551616),by omega⟩
   obtain ⟨m1,Md,k1,uj⟩:=hv a.v
   obtain ⟨m2,PM,k2,hk2⟩:=hv was.v
   have hsub:∃ m3,af .sub (I .u64 m1) (I .u64 m2)=some (I .u64 m3)/\aF .i64 (I .u64 m3)=some (I .i64 (W6 (a.v-was.v))):=by
    refine ⟨_,jg _ _ _,?_⟩
    rw [aV]
    have:∃ k:Int,IntKind.u64.wrap (m1-m2)=(a.v-was.v)+18446744073709551616*k:=by
     unfold IntKind.wrap
     simp [IntKind.signed,IntKind.bits]
     exact ⟨k1-k2-(m1-m2) / 18446744073709551616,by omega⟩
    obtain ⟨k,hk⟩:=this
    show some (I .i64 (W6 (IntKind.u64.wrap (m1-m2))))=_
    rw [N9 hk]
   obtain ⟨m3,Q8,hm4⟩:=hsub
   refine ⟨u6,W6 (a.t-was.t),(acc++aP (dB (W6 (W6 (a.t-was.t)-step))))++aP (dB (W6 (a.v-was.v))),fK (W6 (a.t-was.t)) a (l.drop (j+1+1)),?_,g3.trans g6,.inr ⟨j+1,a,rfl,Cv,iL _,rfl⟩,?_,?_⟩
   · unfold oS
     have q1:af .sub (I .i64 a.t) (I .i64 was.t)=some (I .i64 (W6 (a.t-was.t))):=by rw [jg]
     have q2:af .sub (I .i64 (W6 (a.t-was.t))) (I .i64 step)=some (I .i64 (W6 (W6 (a.t-was.t)-step))):=by rw [jg]
     clear mE hv uj hk2
     generalize R (d+1)=rr at *
     generalize W6 (W6 (a.t-was.t)-step)=A1 at *
     generalize W6 (a.t-was.t)=A2 at *
     generalize W6 (a.v-was.v)=A3 at *
     generalize acc++aP (dB A1)=B1 at *
     generalize B1++aP (dB A3)=B2 at *
     generalize aP (dB A1)=V1 at *
     generalize aP (dB A3)=V3 at *
     generalize ((dB A1:Nat):Int)=z1 at *
     generalize ((dB A3:Nat):Int)=z3 at *
     generalize ((j+1+1:Nat):Int)=K2 at *
     generalize ((j+1:Nat):Int)=K1 at *
     generalize ((j:Nat):Int)=K0 at *
     generalize ((l.length:Nat):Int)=LL at *
     simp [ll,c0,c1,ix,lt,w2,EV,S8,q1,lv,Md,Qc,PM,Q8,hm4,q2,e5,e3,s3,e8,e6,s6,w1]
   · rw [mE];simp [fK,List.append_assoc]
   · have:=vl (dB (W6 (W6 (a.t-was.t)-step)));have:=vl (dB (W6 (a.v-was.v)))
     rw [List.length_append,List.length_append];omega
end
section
variable {s t u s0:St} {x y b lx bx:S} {l acc:List eQ} {bs:Bs} {p:Nat} {r:Rr} {g:Sg}
set_option maxHeartbeats 2000000 in
theorem IM (d:Nat) (wf:s.wf) (h:oG s x l) (eH:∀ c,own x=some c->c<s.size) (hok:zg l=true) (hv:∀ a∈l,I6 a.v):∃ t,R (d+2) 72 [Z x] s=some (.eD [.s (.str (bh l)),.s (.int .i64 0)],t)/\Gr s t:=by
 have sO:=hok
 unfold zg at sO
 rw [Bool.and_eq_true] at sO
 have hl:l.length<=64:=Nat.le_of_ble_eq_true sO.2
 have ht:∀ a∈l,I6 a.t/\0<=a.t/\I6 a.v:=fun a ha=>by
  have h1:=iI sO.1 a ha
  have h2:=hv a ha
  unfold I6 at *
  omega
 have e1:=qq d h (by omega) sO.1
 have ll:=h.lens
 have c1:¬ 64<((l.length:Nat):Int):=by omega
 have c2:aF .u64 (I .i64 ((l.length:Nat):Int))=some (I .u64 ((l.length:Nat):Int)):=by rw [aV,wrap64 _ (by omega)]
 obtain ⟨s2,e2,g2⟩:=ew d wf l.length (by omega)
 have hblk:∃ rest,nf l 0 0 rest/\aP l.length++rest=bh l:=by
  cases l with
  | nil=>exact ⟨[],.inl ⟨rfl,rfl,.inl ⟨rfl,rfl⟩⟩,by simp [bh]⟩
  | cons a r=>exact ⟨iD a++fK 0 a r,.inl ⟨rfl,rfl,.inr ⟨a,r,rfl,rfl⟩⟩,by simp [bh]⟩
 obtain ⟨rest,hr,m9⟩:=hblk
 obtain ⟨j,τ,lp,rfl,hF⟩:=aW (f:=oS (R (d+1)) 8192)
  (fun q v u=>∃ (k:Nat) (step:Int) (acc rest:Bs),q+k=l.length/\v=[Z x,Z (.str acc),I .i64 step,I .i64 (k:Nat)]/\Gr s u/\nf l k step rest/\acc++rest=bh l/\acc.length<=22*k+11)
  (fun j u=>j = .exit 0 [Z (.str (bh l))]/\Gr s u) (by
  rintro q v u ⟨k,step,acc,rest,hq,rfl,hg,hr,m9,hal⟩
  have hu:=h.gr eH hg
  by_cases hk:k<l.length
  · left
    obtain ⟨u',je,kD,rest',e,uW,hr',AX,Py⟩:=BG d hg.wf hu (fun c hc=>Nat.lt_of_lt_of_le (eH c hc) hg.2.1) hr hk hl ht hal
    exact ⟨_,u',q-1,e,by omega,k+1,je,kD,rest',by omega,rfl,hg.trans uW,hr',by rw [AX,m9],Py⟩
  · right
    have hkk:k=l.length:=by omega
    subst hkk
    have:=vD hr (Nat.le_refl _)
    subst this
    rw [List.append_nil] at m9
    subst m9
    have lu:=hu.lens
    refine ⟨_,u,?_,(fun v h=>by cases h),rfl,hg⟩
    unfold oS
    generalize ((l.length:Nat):Int)=LL at *
    simp [lu])
  8192 l.length _ s2 ⟨0,0,aP l.length,rest,by omega,rfl,g2,hr,m9,by have:=bG l.length;omega⟩ (by omega)
 refine ⟨τ,?_,hF⟩
 rw [LD]
 unfold f72
 have e0:((0:Nat):Int)=0:=rfl
 rw [e0] at lp
 generalize R (d+1)=rr at *
 generalize bh l=BB at *
 generalize ((l.length:Nat):Int)=LL at *
 simp [e1,ll,c1,c2,e2,lp,aQ,bI,kF]
set_option maxHeartbeats 1000000 in
theorem IZ (d:Nat) (wf:s.wf) (h:jj g) (hx:oG s x g.l) (eH:∀ c,own x=some c->c<s.size):∃ t,R (d+2) 70 [AG g x] s=some (B true,t)/\Gr s t:=by
 obtain ⟨s1,hs1⟩:∃ s1,s1=s.push (.cells true (cG g x)):=⟨_,rfl⟩
 have nw:aK s (ct (AG g x))=some (Z (.ptr s.size 0),s1):=by rw [hs1];rfl
 have g1:Gr s s1:=by rw [hs1];exact Gr.push wf _
 have b1:s1.get s.size=some (.cells true (cG g x)):=by rw [hs1];exact St.aq _ _
 have q0:ab (Z (.ptr s.size 0)) s1.get=some (I .i64 g.i):=ai b1 rfl
 have q1:ab (Z (.ptr s.size 1)) s1.get=some (I .i64 0):=ai b1 rfl
 have q2:ab (Z (.ptr s.size 2)) s1.get=some (I .i64 g.f):=ai b1 rfl
 have q3:ab (Z (.ptr s.size 3)) s1.get=some (I .i64 g.o):=ai b1 rfl
 have q4:ab (Z (.ptr s.size 4)) s1.get=some (Z x):=ai b1 rfl
 have q5:ab (Z (.ptr s.size 5)) s1.get=some (Z .az):=ai b1 rfl
 have hx1:=hx.gr eH g1
 have hf:=h.Co
 have hok:=h.ok
 unfold zg at hok
 rw [Bool.and_eq_true] at hok
 have e3:=qq d hx1 (by omega) hok.1
 have hpos:0<g.l.length:=List.length_pos_iff.2 h.ne
 obtain ⟨a,ha⟩:∃ a,g.l[0]? = some a:=⟨_,List.getElem?_eq_getElem hpos⟩
 obtain ⟨z,hz⟩:∃ z,g.l[g.l.length-1]? = some z:=⟨_,List.getElem?_eq_getElem (by omega)⟩
 have ur:g.l.getLast? = some z:=by rw [List.getLast?_eq_getElem?];exact hz
 have h1:=h.lo a ha
 have h2:=h.hi z ur
 obtain ⟨ca,pa,ia,_,la,_⟩:=oG.Dm hx1 (n:=0) (j:=0) rfl ha
 obtain ⟨cz,pz,iz,_,lz,_⟩:=oG.Dm hx1 (n:=((g.l.length:Nat):Int)-1) (j:=g.l.length-1) (by omega) hz
 have ll:=hx1.lens
 have w1:IntKind.i64.wrap (((g.l.length:Nat):Int)-1)=((g.l.length:Nat):Int)-1:=aB _ (by omega) (by omega)
 have c1:(1:Int)<=((g.l.length:Nat):Int):=by omega
 have c2:((g.l.length:Nat):Int)<=64:=by omega
 have i1:¬ g.i<1:=by have:=h.i1;omega
 have i2:¬ 1073741824<g.i:=by have:=h.i2;omega
 have i3:¬ g.f<0:=by have:=h.f0;omega
 have i4:¬ g.o<=g.f:=by have:=h.fo;omega
 have i5:¬ 1099511627776<g.o:=by have:=h.o2;omega
 refine ⟨s1,?_,g1⟩
 rw [LB]
 unfold f70
 generalize R (d+1)=rr at *
 generalize s.size=ss at *
 generalize ((g.l.length:Nat):Int)=LL at *
 simp [nw,q0,i1,i2,q1,q2,i3,q3,i4,i5,q4,q5,ll,c1,c2,e3,ia,la,h1,w1,iz,lz,h2,wq,kF]
set_option maxHeartbeats 4000000 in
theorem zA (d:Nat) (wf:s.wf) (h:jj g) (hx:oG s x g.l) (eH:∀ c,own x=some c->c<s.size):∃ t,R (d+3) 20 [AG g x] s=some (.eD [.s (.str (bW g)),.s (.int .i64 0)],t)/\Gr s t:=by
 obtain ⟨s1,hs1⟩:∃ s1,s1=s.push (.cells true (cG g x)):=⟨_,rfl⟩
 have nw:aK s (ct (AG g x))=some (Z (.ptr s.size 0),s1):=by rw [hs1];rfl
 have g1:Gr s s1:=by rw [hs1];exact Gr.push wf _
 have b1:s1.get s.size=some (.cells true (cG g x)):=by rw [hs1];exact St.aq _ _
 have q6:=px (m:=s1.get) b1
 have hx1:=hx.gr eH g1
 have uo:∀ c,own x=some c->c<s1.size:=fun c hc=>Nat.lt_of_lt_of_le (eH c hc) g1.2.1
 obtain ⟨s2,e2,g2⟩:=IZ d g1.wf h hx1 uo
 have b2:=g2.get b1 g1.wf
 have h1:=h.i1
 have h2:=h.i2
 have h3:=h.f0
 have h4:=h.fo
 have h5:=h.o2
 have c0:aF .u64 (I .i64 g.i)=some (I .u64 (g.i.toNat:Nat)):=by
  rw [aV]
  have:=wrap64 g.i.toNat (by omega)
  rw [show ((g.i.toNat:Nat):Int)=g.i by omega] at this
  rw [this,show ((g.i.toNat:Nat):Int)=g.i by omega]
 have c2:aF .u64 (I .i64 g.f)=some (I .u64 (g.f.toNat:Nat)):=by
  rw [aV]
  have:=wrap64 g.f.toNat (by omega)
  rw [show ((g.f.toNat:Nat):Int)=g.f by omega] at this
  rw [this,show ((g.f.toNat:Nat):Int)=g.f by omega]
 have w3:IntKind.i64.wrap (g.o-g.f)=g.o-g.f:=aB _ (by omega) (by omega)
 have c3:aF .u64 (I .i64 (g.o-g.f))=some (I .u64 ((g.o-g.f).toNat:Nat)):=by
  rw [aV]
  have:=wrap64 (g.o-g.f).toNat (by omega)
  rw [show (((g.o-g.f).toNat:Nat):Int)=g.o-g.f by omega] at this
  rw [this,show (((g.o-g.f).toNat:Nat):Int)=g.o-g.f by omega]
 have c1:aF .u64 (I .i64 0)=some (I .u64 (0:Nat)):=rfl
 have vl:∀ n,(aP n).length<=11:=bG
 have v0:=vl g.i.toNat
 have v1:=vl 0
 have v2:=vl g.f.toNat
 have v3:=vl (g.o-g.f).toNat
 obtain ⟨s4,e4,g4⟩:=ew (d+1) g2.wf g.i.toNat (by omega)
 obtain ⟨s5,e5,g5⟩:=ew (d+1) g4.wf 0 (by omega)
 obtain ⟨s6,e6,g6⟩:=ew (d+1) g5.wf g.f.toNat (by omega)
 obtain ⟨s7,e7,g7⟩:=ew (d+1) g6.wf (g.o-g.f).toNat (by omega)
 have b4:=g4.get b2 g2.wf
 have b5:=g5.get b4 g4.wf
 have b6:=g6.get b5 g5.wf
 have b7:=g7.get b6 g6.wf
 have q0:ab (Z (.ptr s.size 0)) s2.get=some (I .i64 g.i):=ai b2 rfl
 have Tl:ab (Z (.ptr s.size 1)) s2.get=some (I .i64 0):=ai b2 rfl
 have q41:ab (Z (.ptr s.size 1)) s4.get=some (I .i64 0):=ai b4 rfl
 have UP:ab (Z (.ptr s.size 2)) s2.get=some (I .i64 g.f):=ai b2 rfl
 have q42:ab (Z (.ptr s.size 2)) s4.get=some (I .i64 g.f):=ai b4 rfl
 have q52:ab (Z (.ptr s.size 2)) s5.get=some (I .i64 g.f):=ai b5 rfl
 have q62:ab (Z (.ptr s.size 2)) s6.get=some (I .i64 g.f):=ai b6 rfl
 have q23:ab (Z (.ptr s.size 3)) s2.get=some (I .i64 g.o):=ai b2 rfl
 have q43:ab (Z (.ptr s.size 3)) s4.get=some (I .i64 g.o):=ai b4 rfl
 have q53:ab (Z (.ptr s.size 3)) s5.get=some (I .i64 g.o):=ai b5 rfl
 have q63:ab (Z (.ptr s.size 3)) s6.get=some (I .i64 g.o):=ai b6 rfl
 have Tm:ab (Z (.ptr s.size 1)) s7.get=some (I .i64 0):=ai b7 rfl
 have q74:ab (Z (.ptr s.size 4)) s7.get=some (Z x):=ai b7 rfl
 have a0:=gl [84,75] (aP g.i.toNat) (by simp;omega)
 have a1:=gl ([84,75]++aP g.i.toNat) (aP 0) (by simp;omega)
 have a2:=gl (([84,75]++aP g.i.toNat)++aP 0) (aP g.f.toNat) (by simp;omega)
 have a3:=gl ((([84,75]++aP g.i.toNat)++aP 0)++aP g.f.toNat) (aP (g.o-g.f).toNat) (by simp;omega)
 have hh:((([84,75]++aP g.i.toNat)++aP 0)++aP g.f.toNat)++aP (g.o-g.f).toNat=iQ g:=by simp [iQ,List.append_assoc]
 rw [hh] at a3
 have g17:=(((g2.trans g4).trans g5).trans g6).trans g7
 have hx7:=hx1.gr uo g17
 obtain ⟨s8,e8,g8⟩:=IM d g7.wf hx7 (fun c hc=>by have:=uo c hc;have:=g17.2.1;omega) h.ok h.vs
 have m9:=ik h
 have AX:(iQ g).length+(bh g.l).length<=1500:=by unfold bg at m9;rwa [List.length_append] at m9
 have a4:=gl (iQ g) (bh g.l) (by omega)
 rw [show iQ g++bh g.l=bg g from rfl] at a4
 have e9:=I2 (s:=s8) d (bs:=bg g) (by omega)
 obtain ⟨bV,sw,g10⟩:=G2 (d+1) g8.wf (bN 1 (bg g))
 have hfl:(four (bN 1 (bg g))).length=4:=rfl
 have a5:=gl (bg g) (four (bN 1 (bg g))) (by omega)
 rw [show bg g++four (bN 1 (bg g))=bW g from rfl] at a5
 have tT:=jE h
 have ls:cj (Z (.str (bW g)))=some (I .i64 (bW g).length):=rfl
 have cF:¬ 4000<(((bW g).length:Nat):Int):=by omega
 refine ⟨bV,?_,(g1.trans g17).trans (g8.trans g10)⟩
 rw [La]
 unfold f20
 clear m9 AX hfl tT hh v0 v1 v2 v3 vl h1 h2 h3 h4 h5
 generalize R (d+2)=rr at *
 generalize s.size=ss at *
 generalize (((bW g).length:Nat):Int)=SL at *
 generalize bW g=SGB at *
 generalize four (bN 1 (bg g))=F4 at *
 generalize ((bN 1 (bg g):Nat):Int)=SB at *
 generalize bg g=BDB at *
 generalize iQ g=HDB at *
 generalize bh g.l=BLB at *
 generalize (([84,75]++aP g.i.toNat)++aP 0)++aP g.f.toNat=X3 at *
 generalize ([84,75]++aP g.i.toNat)++aP 0=X2 at *
 generalize [84,75]++aP g.i.toNat=X1 at *
 generalize aP g.i.toNat=V0 at *
 generalize aP g.f.toNat=V2 at *
 generalize aP (g.o-g.f).toNat=V3 at *
 generalize aP 0=V1 at *
 generalize ((g.i.toNat:Nat):Int)=n0 at *
 generalize ((0:Nat):Int)=nz at *
 generalize ((g.f.toNat:Nat):Int)=n2 at *
 generalize (((g.o-g.f).toNat:Nat):Int)=n3 at *
 simp [nw,q6,e2,q0,c0,e4,a0,Tl,q41,c1,e5,a1,UP,q42,q52,c2,e6,a2,q23,q43,q53,q63,q62,w3,c3,e7,a3,Tm,q74,e8,ah,a4,e9,sw,a5,ls,cF,aQ,bI]
end
end Go.Proofs.YtbohejffelipoaaGreatDoor
