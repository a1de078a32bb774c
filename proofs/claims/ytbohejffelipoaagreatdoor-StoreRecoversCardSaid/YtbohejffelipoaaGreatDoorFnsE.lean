/-
  Several texts in one: what functions that the law reaches compute. No conditions but those named in each line.
-/
import Derived.Test.YtbohejffelipoaaGreatDoorFnsD
import Derived.Test.YtbohejffelipoaaGreatDoorAbsE
import Derived.Test.YtbohejffelipoaaGreatDoorFnsB
import Derived.Test.YtbohejffelipoaaGreatDoorFnsA
import Derived.Test.YtbohejffelipoaaGreatDoorFnsC
import Derived.Shelf.Strings.OnBuilder
import Derived.Shelf.Strings.Search3
import Derived.Shelf.Strings.Count
import Derived.Test.YtbohejffelipoaaGreatDoorProg
import Derived.Shelf.SlGeneric
import Derived.Shelf.SlIter.Nil
import Derived.Shelf.SortM.Plain
import Derived.Shelf.SortM.SortNone
import Derived.Ground.GgzProg
import Derived.Ground.SlgmProg
import Derived.Test.YtbohejffelipoaaGreatDoorChecked
import Derived.WalkKit
namespace Go.Proofs.YtbohejffelipoaaGreatDoor
open Go Go.Abs Go.Abs.F
set_option linter.unusedVariables false
def gN (K:Nat) (vs:List FV):List FV:=jD dL (fun v=>⟨v.nm,v.l.take K,K⟩) vs
section
variable {ρ ρ':Nat->Nat} {s t:St} {D:mS} {room:Int} {fs fs':List Fl} {l es:List bA} {q:FoS} {sure:Nat} {i m:Nat} {e:bA} {y:S} {bs:Bs} {kl:List Int} {vs:List FV}
theorem tX {vs:List FV} (h:(vs.map (·.nm)).Nodup) {v w:FV} (hv:v∈vs) (hw:w∈vs) (e:v.nm=w.nm):v=w:=by
 obtain ⟨i,hi⟩:=List.getElem?_of_mem hv
 obtain ⟨j,hj⟩:=List.getElem?_of_mem hw
 have:=(List.getElem?_inj (by rw [List.length_map];exact (List.getElem?_eq_some_iff.1 hi).1) h (j:=j)).1 (by rw [List.getElem?_map,List.getElem?_map,hi,hj];simp [e])
 subst this
 rw [hi] at hj
 exact Option.some.inj hj
theorem fB.VE (h:fB vs l q sure) {v:FV} (hv:v∈vs) (hn:v.nm≠dL):v.sure=v.l.length:=by
 obtain ⟨a,ha,e⟩:=h.own v hv hn
 obtain ⟨g,k,h1,h2,h3,h4,h5,w,hw,Dy,Pr,vR⟩:=h.Gk a ha
 have:v=w:=tX h.nd hv hw (by
  rw [e,Dy,h1]
  show bw g.i.toNat=_
  rw [h3];rfl)
 rw [this];exact vR
theorem xA (h:fB (cu fs) l q sure) (hc:C3 kl fs fs') (hle:∀ f∈fs,f.sure<=f.l.length):∃ K,cL l sure<=K/\K<=(aF l).length/\cu fs'=gN K (cu fs):=by
 have hpl:cL l sure<=(aF l).length:=by rw [← dK];exact qX _ h.su
 have key:∀ K,(∀ f∈fs,f.nm=dL->eB kl fs f=K)->cu fs'=gN K (cu fs):=by
  intro K hK
  apply List.ext_getElem?
  intro j
  unfold gN jD cu
  rw [List.getElem?_map,List.getElem?_map,List.getElem?_map]
  cases hx:fs[j]? with
  | none =>
    have:fs'[j]? = none:=List.getElem?_eq_none (by have:=hc.len;have:=List.getElem?_eq_none_iff.1 hx;omega)
    rw [this];rfl
  | some f =>
    obtain ⟨x',hx',_⟩:=hc.at_ j f hx
    rw [hx']
    by_cases hn:f.nm=dL
    · rw [hK f (List.mem_of_getElem? hx) hn]
      simp [vw,hn]
    · have h1:=h.VE (v:=vw f) (List.mem_map_of_mem (List.mem_of_getElem? hx)) hn
      have h2:eB kl fs f=f.l.length:=by
       unfold eB kS
       have:f.sure=f.l.length:=h1
       omega
      have h3:f.sure=f.l.length:=h1
      simp [vw,hn,h2,h3]
 cases hh:ik dL (cu fs) with
 | false =>
   refine ⟨cL l sure,Nat.le_refl _,hpl,key _ fun f hf hn=>absurd hn (ji hh f hf)⟩
 | true =>
   obtain ⟨k,f,hk,hn⟩:=jQ hh
   have rH:=List.mem_of_getElem? hk
   have hlf:=hle f rH
   rcases h.lg with ⟨v,hv,a1,a2,a3⟩ | ⟨a1,_⟩
   · have hvf:v=vw f:=tX h.nd hv (List.mem_map_of_mem rH) (by rw [a1];exact hn.symm)
     rw [hvf] at a2 a3
     have e1:f.l.length=(aF l).length:=by
      have:f.l=U (aF l):=a2
      rw [this,qz]
     have e2:f.sure=cL l sure:=a3
     refine ⟨eB kl fs f,by unfold eB;omega,?_,key _ fun g hg X9 => ?_⟩
     · have:=zX kl (u9 fs f.nm) hlf
       unfold eB
       omega
     · have:vw g=vw f:=tX h.nd (List.mem_map_of_mem hg) (List.mem_map_of_mem rH) (by show g.nm=f.nm;rw [X9,hn])
       unfold eB kS
       have q1:g.nm=f.nm:=congrArg FV.nm this
       have q2:g.l=f.l:=congrArg FV.l this
       have q3:g.sure=f.sure:=congrArg FV.sure this
       rw [q1,q2,q3]
   · exact absurd hn (a1 (vw f) (List.mem_map_of_mem rH))
theorem Ac (h:Eb vs l sure) (hnd:(vs.map (·.nm)).Nodup) {K:Nat}:Gw (gN K vs) ((aF l).take K):=by
 refine ⟨fun v hv hn => ?_,fun hh => ?_⟩
 · obtain ⟨w,hw,rfl⟩:=List.mem_map.1 hv
   by_cases Dy:w.nm=dL
   · rw [if_pos Dy]
     rcases h with ⟨v',oC,a1,a2,a3⟩ | ⟨a1,_⟩
     · have:w=v':=tX hnd hw oC (by rw [Dy,a1])
       rw [this]
       show v'.l.take K=_
       rw [a2,j6]
     · exact absurd Dy (a1 w hw)
   · rw [if_neg Dy] at hn
     exact absurd hn Dy
 · rcases h with ⟨v',oC,a1,a2,a3⟩ | ⟨_,a2,_⟩
   · have h1:ik dL (gN K vs)=true:=iQ.2 ⟨⟨v'.nm,v'.l.take K,K⟩,List.mem_map.2 ⟨v',oC,by rw [if_pos a1]⟩,a1⟩
     rw [h1] at hh;cases hh
   · rw [a2];simp [aF]
theorem xz (K:Nat) (vs:List FV):(gN K vs).map (·.nm)=vs.map (·.nm):=kK (n:=dL) (g:=fun v:FV=>⟨v.nm,v.l.take K,K⟩) (fun _=>rfl) vs
theorem BM (n:Bs) (N:Nat) (vs:List FV):(Ex n N vs).map (·.nm)=vs.map (·.nm):=kK (n:=n) (g:=fun v:FV=>⟨v.nm,v.l.take N,min v.sure N⟩) (fun _=>rfl) vs
def Gf (K N:Nat) (v:FV):FV:=if v.nm=dL then ⟨v.nm,(v.l.take K).take N,((v.l.take K).take N).length⟩ else v
theorem qm (K N:Nat) (v:FV):(Gf K N v).nm=v.nm:=by unfold Gf;split<;>rfl
theorem J3 (K N:Nat) (vs:List FV):fN dL (Ex dL N (gN K vs))=vs.map (Gf K N):=by
 unfold fN Ex gN jD
 rw [List.map_map,List.map_map]
 apply List.map_congr_left
 intro v _
 unfold Gf
 by_cases hn:v.nm=dL
 · simp [hn]
 · simp [hn]
theorem fB.re {j K:Nat} {q2:FoS} (h:fB vs l q sure) (hj:j<=l.length) (Ws:(aF (l.take j)).length<=K) (hf:bf lL (l.take j)=(0,q2)) (hsub:∀ a∈q2.l,a∈q.l) (KQ:q2.w=0) :
 fB (qW q2.l (aF (l.take j)).length (gN K vs)) (l.take j) q2 j:=by
 obtain ⟨N,hN⟩:∃ N,N=(aF (l.take j)).length:=⟨_,rfl⟩
 rw [← hN] at Ws ⊢
 have hjl:(l.take j).length=j:=by rw [List.length_take];omega
 have gG:∀ v,v∈qW q2.l N (gN K vs)↔(∃ w∈vs,v=Gf K N w/\gH q2.l w.nm=true):=fun v=>by
  unfold qW
  rw [List.mem_filter,J3,List.mem_map]
  constructor
  · rintro ⟨⟨w,hw,rfl⟩,hk⟩
    exact ⟨w,hw,rfl,by rwa [qm] at hk⟩
  · rintro ⟨w,hw,rfl,hk⟩
    exact ⟨⟨w,hw,rfl⟩,by rwa [qm]⟩
 have NB:∀ a∈q2.l,jG (qW q2.l N (gN K vs)) a:=fun a ha=>by
  obtain ⟨g,k,h1,h2,h3,h4,h5,w,hw,Dy,Pr,vR⟩:=h.Gk a (hsub a ha)
  refine ⟨g,k,h1,h2,h3,h4,h5,w,(gG w).2 ⟨w,hw,?_,?_⟩,Dy,Pr,vR⟩
  · unfold Gf;rw [if_neg (by rw [Dy];exact dz k)]
  · unfold gH
    rw [Bool.or_eq_true,List.any_eq_true]
    refine .inr ⟨a,ha,?_⟩
    rw [Dy,h1]
    show (bw k == bw g.i.toNat)=true
    rw [h3]
    show (bw k == bw k)=true
    simp
 refine ⟨?_,fun v hv => ?_,NB,fun v hv lU => ?_,fun n hn hnl q' qK a ha => ?_,KQ,hf,?_,by omega⟩
 · rcases h.lg with ⟨w,hw,a1,a2,a3⟩ | ⟨a1,a2,a3⟩
   · refine .inl ⟨Gf K N w,(gG _).2 ⟨w,hw,rfl,by rw [a1];unfold gH;simp⟩,by rw [qm];exact a1,?_,?_⟩
     · unfold Gf
       rw [if_pos a1]
       show (w.l.take K).take N=_
       rw [a2,j6,j6,List.take_take,Nat.min_eq_left Ws]
       congr 1
       have h1:aF l=aF (l.take j)++aF (l.drop j):=by rw [← ef,List.take_append_drop]
       rw [h1,hN,List.take_left]
     · unfold Gf
       rw [if_pos a1]
       show ((w.l.take K).take N).length=_
       have h1:aF l=aF (l.take j)++aF (l.drop j):=by rw [← ef,List.take_append_drop]
       have h2:cL (l.take j) j=N:=by
        unfold cL
        rw [List.take_of_length_le (by omega),hN]
       rw [h2,a2,j6,j6,qz,List.length_take,List.length_take,h1,List.length_append]
       omega
   · refine .inr ⟨fun v hv => ?_,by rw [a2];simp,by rw [a2] at hj;simpa using hj⟩
     obtain ⟨w,hw,rfl,_⟩:=(gG v).1 hv
     rw [qm];exact a1 w hw
 · obtain ⟨w,hw,rfl,_⟩:=(gG v).1 hv
   rw [qm];exact h.nm w hw
 · obtain ⟨w,hw,rfl,hk⟩:=(gG v).1 hv
   rw [qm] at lU ⊢
   unfold gH at hk
   rw [Bool.or_eq_true] at hk
   rcases hk with hk | hk
   · exact absurd (eq_of_beq hk) lU
   · obtain ⟨a,ha,Rk⟩:=List.any_eq_true.1 hk
     exact ⟨a,ha,eq_of_beq Rk⟩
 · rw [hjl] at hnl
   have:n=j:=by omega
   subst this
   rw [List.take_take,Nat.min_self,hf] at qK
   injection qK with _ h2
   rw [← h2] at ha
   exact ha
 · unfold qW
   refine List.Nodup.sublist (List.Sublist.map _ List.filter_sublist) ?_
   rw [ml,BM,xz]
   exact h.nd
theorem OD (h:fB vs l q l.length):qW q.l (aF l).length (gN (aF l).length vs)=vs:=by
 unfold qW
 rw [J3]
 have h1:vs.map (Gf (aF l).length (aF l).length)=vs:=by
  have:∀ v∈vs,Gf (aF l).length (aF l).length v=v:=fun v hv=>by
   unfold Gf
   by_cases hn:v.nm=dL
   · rw [if_pos hn]
     rcases h.lg with ⟨w,hw,a1,a2,a3⟩ | ⟨a1,_⟩
     · have:v=w:=tX h.nd hv hw (by rw [hn,a1])
       subst this
       have h2:v.l.length=(aF l).length:=by rw [a2,qz]
       have h3:(v.l.take (aF l).length).take (aF l).length=v.l:=by rw [← h2,List.take_length,List.take_length]
       rw [h3]
       cases v
       simp only at a3 h2 ⊢
       rw [a3,h2,dK]
     · exact absurd hn (a1 v hv)
   · rw [if_neg hn]
  conv=>rhs;rw [← List.map_id vs]
  exact List.map_congr_left this
 rw [h1]
 refine List.filter_eq_self.2 fun v hv => ?_
 unfold gH
 rw [Bool.or_eq_true]
 by_cases hn:v.nm=dL
 · exact .inl (by simp [hn])
 · obtain ⟨a,ha,e⟩:=h.own v hv hn
   exact .inr (List.any_eq_true.2 ⟨a,ha,by simp [e]⟩)
set_option maxHeartbeats 2000000 in
theorem uq (d:Nat) (h:aX ρ s D room fs l q sure) (hi:fB (cu fs) l q sure) (Rv:(aF l).length<=7900) (hfl:fs.length<=1000) (hy:Rd 1 s y kl.length (kl.map (S.int .i64))) (Dz:∀ c,own y=some c->c<s.size/\7<=ρ c) :
 ∃ s1 ρ' D' fs' t j q2,R (d+13) 25 [Z (.ptr D.i 0),Z y] s=some (.eF [],s1)/\R (d+13) 14 [Z (.ptr D.i 0)] s1=some (.eF [.s (.ptr D'.p 0),.s (.int .i64 0)],t)/\aX ρ' t D' room fs' (l.take j) q2 j/\fB (cu fs') (l.take j) q2 j ∧
   sure<=j/\j<=l.length/\(D'.i=D.i/\D'.m=D.m)/\K7 ρ ρ' s t/\(sure=l.length->cu fs'=cu fs/\q2=q):=by
 have r:=h.ro
 have hlen:∀ f∈fs,f.nm.length<=1000:=fun f hf=>by
  rcases hi.nm (vw f) (List.mem_map_of_mem hf) with e | ⟨k,_,_,e⟩
  · rw [show f.nm=dL from e];decide
  · rw [show f.nm=bw k from e];have:=iF (k:=k);omega
 obtain ⟨fs1,s1,e1,k1,c1,z1,o1⟩:=BN (d+11) h.dk hlen hfl hy (fun c hc=>⟨(Dz c hc).1,fun f hf e=>by have h1:=(Dz c hc).2;have h2:=r.fb f hf;rw [← e] at h2;omega⟩)
 have hle:∀ f∈fs,f.sure<=f.l.length:=fun f hf=>by
  obtain ⟨k,hk⟩:=List.getElem?_of_mem hf
  exact (h.dk.fl k f hk).2.2.1
 obtain ⟨K,hK0,hK1,II⟩:=xA hi c1 hle
 obtain ⟨hall,hok,cW⟩:=h.ok
 obtain ⟨j,hj,Ta,Ws,hjn,aab⟩:=Kr hall h.wf h.Dj hK1
 obtain ⟨q2,pU,X4⟩:=zG h.fo j
 have hsj:sure<=j:=by
  apply Nat.le_of_not_lt
  intro hlt
  have h1:=qX l (i:=j+1) (j:=sure) hlt
  have hsu:=hi.su
  have hjl:j<l.length:=by omega
  have h2:=hjn hjl
  have h3:cL l (j+1)=(aF (l.take j)).length+(aZ (bj l[j])).length:=by
   unfold cL
   rw [List.take_add_one,List.getElem?_eq_getElem hjl,ef,List.length_append]
   simp [aF]
  omega
 have hsub:=hi.sub j hsj hj q2 pU
 obtain ⟨_,Yw,X0⟩:=pN pU BZ
 have aan:=h.Dj
 have YD:q2.l.length<=8000:=by
  have:=Yw.len
  simp [lL] at X0
  omega
 have KQ:∀ (es:List bA) (qa qb:FoS),bf qa es=(0,qb)->qb.w=0->qa.w<=0:=by
  intro es
  induction es with
  | nil=>intro qa qb h1 h2;cases h1;omega
  | cons e es ih =>
    intro qa qb h1 h2
    simp only [bf] at h1
    by_cases ha:bh qa e=0
    · rw [if_pos ha] at h1
      have h3:=ih _ _ h1 h2
      have h4:(cN qa e).w=e.v:=by
       unfold cN
       split
       · rfl
       · split
         · rfl
         · split<;>rfl
      have h5:qa.w<=e.v:=by
       unfold bh at ha
       rw [if_pos (dN ha)] at ha
       apply Int.not_lt.1
       intro hlt
       rw [if_pos hlt] at ha
       split at ha
       · cases ha
       · split at ha<;>cases ha
      omega
    · rw [if_neg ha] at h1
      injection h1 with h1 _
      exact absurd h1 ha
 have IK:q2.w=0:=by
  have h1:=KQ (l.drop j) q2 q X4 hi.w0
  have h2:0<=q2.w:=by
   have gen:∀ (es:List bA) (qa qb:FoS),bf qa es=(0,qb)->0<=qa.w->0<=qb.w:=by
    intro es
    induction es with
    | nil=>intro qa qb h1 h2;cases h1;exact h2
    | cons e es ih =>
      intro qa qb h1 h2
      simp only [bf] at h1
      by_cases ha:bh qa e=0
      · rw [if_pos ha] at h1
        refine ih _ _ h1 ?_
        have h4:(cN qa e).w=e.v:=by
         unfold cN
         split
         · rfl
         · split
           · rfl
           · split<;>rfl
        rw [h4]
        have:=(er (dN ha)).1
        exact this
      · rw [if_neg ha] at h1
        injection h1 with h1 _
        exact absurd h1 ha
   exact gen _ _ _ pU (by decide)
  omega
 have Rx:=Ac (K:=K) hi.lg hi.nd
 rw [← II] at Rx
 have hNK:(aF (l.take j)).length<=((aF l).take K).length:=by rw [List.length_take];omega
 have YG:=hi.re hj Ws pU hsub IK
 obtain ⟨ρ',D',fs',t,e2,h2,v2,hD,hk⟩:=vK (ρ:=ρ) d k1 Rx (by rw [II];exact mF (fun _=>rfl) hi.nm) (by have:=c1.len;omega) r.i r.m (fun f hf=>by
  obtain ⟨k,S4⟩:=List.getElem?_of_mem hf
  have hlt:k<fs.length:=by have:=(List.getElem?_eq_some_iff.1 S4).1;have:=c1.len;omega
  obtain ⟨x',hx',ho⟩:=c1.at_ k fs[k] (List.getElem?_eq_getElem hlt)
  rw [S4] at hx'
  have:=Option.some.inj hx'
  subst this
  have hm:=List.getElem_mem hlt
  refine ⟨(r.fb fs[k] hm:ρ fs[k].fb=0),fun c hc => ?_⟩
  rcases ho with e | e
  · rw [show ({ fs[k] with x:=x',l:=_,sure:=_ }:Fl).x=x' from rfl,e] at hc;cases hc
  · exact r.fx fs[k] hm c (by rw [← e];exact hc)) (by rw [List.length_take];omega) Ta rfl hNK pU (fun a ha=>by rw [II];exact mM (hi.Gk a (hsub a ha))) YD (fun e he=>h.wf e (List.mem_of_mem_take he)) (by rw [List.length_take];omega)
 rw [II] at v2
 have hjt:(l.take j).length=j:=by rw [List.length_take];omega
 rw [hjt] at h2
 refine ⟨s1,ρ',D',fs',t,j,q2,e1,e2,h2,by rw [v2];exact YG,hsj,hj,hD,⟨by have:=hk.sz;omega,fun c hc=>hk.ro c (by omega),fun c hc hr => ?_⟩,fun uK => ?_⟩
 · rw [hk.kp c (by omega) hr,o1 c hc fun f hf e=>by have:=r.fb f hf;rw [← e] at this;omega]
 · have hjl:j=l.length:=by omega
   subst hjl
   rw [List.take_length] at pU v2
   have YE:q2=q:=by
    have:=h.fo
    rw [pU] at this
    injection this
   subst YE
   have hKe:K=(aF l).length:=by
    rw [uK,dK] at hK0
    omega
   rw [hKe] at v2
   rw [uK] at hi
   exact ⟨by rw [v2];exact OD hi,rfl⟩
end
def fY (k:Nat):bA:=⟨2,0,(k:Int),0,0,0,0,[]⟩
theorem G2 (k:Nat):pb (fY k):=⟨by simp [fY],by simp [fY]⟩
section
variable {ρ ρ':Nat->Nat} {s t:St} {D:mS} {room:Int} {fs fs':List Fl} {l:List bA} {q:FoS} {sure:Nat} {i m k:Nat} {e:bA} {n:Bs} {y bx:S} {xs:List S} {g:Sg}
inductive Dropped (ρ:Nat->Nat) (D:mS) (room:Int) (fs:List Fl) (l:List bA) (q:FoS) (sure:Nat) (k:Nat) (s t:St):Int->Prop
 | no {ρ' c}:aX ρ' t D room fs l q sure->K7 ρ ρ' s t->c≠0->Dropped ρ D room fs l q sure k s t c
 | ok {ρ' D' fs'}:aX ρ' t D' room fs' (l++[fY k]) (cN q (fY k)) (l++[fY k]).length->cu fs'=qn (bw k) (fN dL (ei (aZ (bj (fY k))) (cu fs)))->K7 ρ ρ' s t->(D'.p=D.p/\D'.i=D.i/\D'.m=D.m) →
  bh q (fY k)=0->1<=k->k<=64->Dropped ρ D room fs l q sure k s t 0
theorem G4 (hi:fB (cu fs) l q sure) (ha:bh q (fY k)=0):1<=k/\k<=64:=by
 have RL:fe q.l (fY k).i=true:=by
  unfold bh at ha
  rw [if_pos (dN ha),if_neg (by simp [fY])] at ha
  by_cases ht:fe q.l (fY k).i=false
  · rw [if_pos ⟨rfl,ht⟩] at ha;cases ha
  · simpa using ht
 obtain ⟨c,hc,XQ⟩:=List.any_eq_true.1 RL
 have XR:c.i=(k:Int):=of_decide_eq_true XQ
 have:=jU (hi.Gk c hc)
 omega
set_option maxHeartbeats 4000000 in
theorem G5 (d:Nat) (h:aX ρ s D room fs l q sure) (hi:fB (cu fs) l q sure) (hn:nN fs) (hsz:(aF l).length<=40000) (hl:l.length<2000) :
 ∃ t c,R (d+15) 17 [Z (.ptr D.p 0),I .i64 (k:Nat),I .i64 0] s=some (I .i64 c,t)/\Dropped ρ D room fs l q sure k s t c:=by
 have np:fT .p (Z (.ptr D.p 0)) (Z .bL)=some (B false):=rfl
 obtain ⟨e,he⟩:∃ e,e=fY k:=⟨_,rfl⟩
 have ag:aU (aG [.int .i64 0,.int .i64 0,.int .i64 0,.int .i64 0,.int .i64 0,.int .i64 0,.int .u32 0,.str []] [(0,1,(I .i64 2)),(1,1,I .i64 0),(2,1,I .i64 (k:Nat))])=some (AE e):=by rw [he];rfl
 obtain ⟨s4,hs4⟩:∃ s4,s4=s.push (.cells true (cE bE)):=⟨_,rfl⟩
 have ya:aL s (bb [.int .i64 0,.int .i64 0,.int .i64 0,.int .i64 0,.int .i64 0,.int .i64 0,.int .u32 0,.str []])=some (Z (.ptr s.size 0),s4):=by rw [hs4];rfl
 have g4:Gr s s4:=by rw [hs4];exact Gr.push h.nK _
 have b4:s4.get s.size=some (.cells true (cE bE)):=by rw [hs4];exact St.aq _ _
 have z4:s4.size=s.size+1:=by rw [hs4];simp
 obtain ⟨s5,hs5⟩:∃ s5,s5=s4.set s.size (.cells true (cE e)):=⟨_,rfl⟩
 have KX:aw 8 (Z (.ptr s.size 0)) (AE e) s4=some (tt,s5):=by rw [hs5];exact jB b4 rfl
 have b5:s5.get s.size=some (.cells true (cE e)):=by rw [hs5];exact St.ar _ _ _
 have g5:Gr s s5:=by
  rw [hs5]
  exact ⟨St.wf_set g4.wf (g4.wf.lt b4) _,by simp;omega,fun c hc=>by rw [St.aj _ _ (by omega)];exact g4.2.2 c hc⟩
 have l5:=c7 (g:=s5.get) b5
 obtain ⟨s6,e6,g6⟩:=nT (d+4) (h.gr g5) hl e
 have g16:=g5.trans g6
 have VU:=g6.get b5 g5.wf
 have Zf:=c7 (g:=s6.get) VU
 have h6:=h.k9 g16
 by_cases ha:bh q e=0
 rotate_left
 · refine ⟨s6,bh q e,?_,.no h6 (O3 g16) ha⟩
   rw [xK]
   unfold f17
   generalize R (d+14)=rr at *
   generalize bh q e=A at *
   generalize ((k:Nat):Int)=KK at *
   generalize s.size=Tm at *
   simp [np,ag,ya,KX,l5,e6,ha]
 rw [ha] at e6
 have Ds:bh q (fY k)=0:=by rw [← he];exact ha
 obtain ⟨jb,hk2⟩:=G4 hi Ds
 have hm:cd e=true:=dN ha
 have hw:pb e:=by rw [he];exact G2 k
 by_cases hf:(jC (cu fs):Int)+(aZ (bj e)).length<=room
 rotate_left
 · obtain ⟨s7,e7,g7⟩:=sR (d+1) h6 hn (by omega) hm hw
   refine ⟨s7,8,?_,.no (h6.gr g7) ((O3 g16).trans (Wm g7)) (by decide)⟩
   rw [xK]
   unfold f17
   simp only [Nat.add_assoc,Nat.reduceAdd] at e7
   generalize R (d+14)=rr at *
   generalize ((k:Nat):Int)=KK at *
   generalize s.size=Tm at *
   simp [np,ag,ya,KX,l5,e6,Zf,e7]
 obtain ⟨Xf,D7,Q9,s7,e7,h7,lg7,gw7,z7,⟨Gb,Du,zO⟩,Vy,k7⟩:=xj (d+1) h6 (mD.2 hi.lg) hn (by rw [kJ];exact hf) hsz ha hw hl
 have v7:=qv h6.nd gw7
 obtain ⟨ρ8,fs8,s8,e8,h8,lg8,sy8,z8,ra8,k8⟩:=AY (d+10) h7 lg7
 have v8:=uG h7.nd sy8
 rw [Gb] at e8
 have q8:ab (Z (.ptr D.p 0)) s8.get=some (Z (.ptr D.i 0)):=by
  have:=h8.st
  rw [Gb,Du] at this
  exact ai this rfl
 have e9:=oH (s:=s8) (d+13) jb hk2
 obtain ⟨Sw,EL,bM,c10,qG,h10,v10,RV⟩:=tM (d+11) h8 (lY jb hk2)
 rw [Du] at qG
 rw [v8,v7] at v10
 have WM:K7 ρ Sw s bM:=(((O3 g16).trans ⟨z7,Vy,k7⟩).trans ⟨z8,ra8,k8⟩).trans RV.k7
 refine ⟨bM,0,?_,?_⟩
 · rw [xK]
   unfold f17
   simp only [Nat.add_assoc,Nat.reduceAdd] at e7 e8 e9 qG
   generalize R (d+14)=rr at *
   generalize ((k:Nat):Int)=KK at *
   generalize s.size=Tm at *
   simp [np,ag,ya,KX,l5,e6,Zf,e7,e8,q8,e9,qG]
 · rw [he] at h10 v10 ha
   exact .ok h10 v10 WM ⟨Gb,Du,zO⟩ Ds jb hk2
set_option maxHeartbeats 4000000 in
theorem Kl (d:Nat) (h:aX ρ s D room fs l q sure) {a:dB} (jP:a∈q.l) (ha:jG (cu fs) a) (yO:q.l.length<=8000) :
 ∃ t y g,R (d+6) 28 [Z (.ptr D.p 0),I .i64 a.i] s=some (.eF [.agg (cG g y),.s (.int .i64 0)],t)/\Gr s t/\a=il g:=by
 obtain ⟨g,k,hag,hg,hk,jb,hk2,v,hv,lU,hvl,_⟩:=ha
 have np:fT .p (Z (.ptr D.p 0)) (Z .bL)=some (B false):=rfl
 have hai:a.i=(k:Int):=by rw [hag];exact hk
 obtain ⟨s1,hs1⟩:∃ s1,s1=s.push (.cells true [.int .i64 (k:Int)]):=⟨_,rfl⟩
 have cZ:aL s (cf (I .i64 (k:Nat)))=some (Z (.ptr s.size 0),s1):=by rw [hs1];rfl
 have g1:Gr s s1:=by rw [hs1];exact Gr.push h.nK _
 have b1:s1.get s.size=some (.cells true [.int .i64 (k:Int)]):=by rw [hs1];exact St.aq _ _
 have z1:s1.size=s.size+1:=by rw [hs1];simp
 obtain ⟨s2,lS⟩:∃ s2,s2=s1.push (.cells true [.int .i64 0,.int .i64 0,.int .i64 0,.int .i64 0,.ay,.ay]):=⟨_,rfl⟩
 have wz:aL s1 (bb [.int .i64 0,.int .i64 0,.int .i64 0,.int .i64 0,.ay,.ay])=some (Z (.ptr s1.size 0),s2):=by rw [lS];rfl
 have g2:Gr s1 s2:=by rw [lS];exact Gr.push g1.wf _
 have b2:s2.get s1.size=some (.cells true [.int .i64 0,.int .i64 0,.int .i64 0,.int .i64 0,.ay,.ay]):=by rw [lS];exact St.aq _ _
 have Ih:=g1.trans g2
 have h2:=h.gr Ih
 have q3:ab (Z (.ptr D.p 3)) s2.get=some (Z (.ptr D.b 0)):=ai h2.st rfl
 obtain ⟨z,s3,e3,F3⟩:=mA (d+3) h2.hf yO
 have cl:rG 80 [Z (.ptr s.size 0)] []=some (Z (.iY 80 [(s.size,0)])):=rfl
 have b13:s3.get s.size=some (.cells true [.int .i64 (k:Int)]):=(g2.trans F3.gr).get b1 g1.wf
 obtain ⟨_,s4,e4,g4⟩:=vF (d+2) F3.gr.wf F3.rd (fun c hc=>(F3.new c hc).2) yO (n:=s.size) (k:=(k:Int)) b13
 have XH:(q.l.any fun a=>decide (a.i=(k:Int)))=true:=List.any_eq_true.2 ⟨a,jP,decide_eq_true hai⟩
 rw [XH] at e4
 have g24:=F3.gr.trans g4
 have h4:=h2.gr g24
 have b14:=g4.get b13 F3.gr.wf
 have RX:ab (Z (.ptr s.size 0)) s4.get=some (I .i64 (k:Nat)):=ai b14 rfl
 have q4:ab (Z (.ptr D.p 0)) s4.get=some (Z (.ptr D.i 0)):=ai h4.st rfl
 have e5:=oH (s:=s4) (d+4) jb hk2
 obtain ⟨w,s6,e6,g6,r6,o6⟩:=vM (d+2) h4 (lY jb hk2) hv lU hvl
 obtain ⟨y,s7,e7,F7⟩:=AJ d g6.wf r6 (fun c hc=>(o6 c hc).2) hg
 have g27:=(g24.trans g6).trans F7.gr
 have b7:=g27.get b2 g2.wf
 obtain ⟨s8,vO⟩:∃ s8,s8=s7.set s1.size (.cells true (cG g y)):=⟨_,rfl⟩
 have yV:aw 6 (Z (.ptr s1.size 0)) (AG g y) s7=some (tt,s8):=by rw [vO];exact mN b7 rfl
 have l8:aH 6 (Z (.ptr s1.size 0)) s8.get=some (AG g y):=nB (by rw [vO];exact St.ar _ _ _)
 refine ⟨s8,y,g,?_,?_,hag⟩
 · rw [MB]
   unfold f28
   rw [hai]
   generalize R (d+5)=rr at *
   generalize ((k:Nat):Int)=KK at *
   generalize s1.size=zz1 at *
   generalize s.size=zz0 at *
   simp [cZ,wz,np,q3,e3,cl,e4,q4,RX,e5,e6,ah,e7,yV,l8,rC,rT,aQ,bK]
 · have Wf:=Ih.trans g27
   rw [vO]
   exact ⟨St.wf_set Wf.wf (Wf.wf.lt b7) _,by simpa using Wf.2.1,fun c hc=>by rw [St.aj _ _ (by omega)];exact Wf.2.2 c hc⟩
end
section
variable {s t:St} {x y:S} {bs cs:List UInt8}
theorem eC (d:Nat) (wf:s.wf) (n:Nat) (hn:n<2 ^ 64):∃ t,R (d+1) 71 [I .u64 n] s=some (Z (.str (aP n)),t)/\Gr s t:=by
 rw [MS]
 unfold f71
 obtain ⟨m,x,acc,τ,lp,hF,hm,ou⟩:=wZ (R d) wf n hn
 have Zj:loops (Ib (R d) 8192) 8192 [I .u64 n,Z .ay] s=some (.exit 0 [I .u64 m,Z x],τ):=lp
 have nw:=NY τ m
 have hb:(UInt8.ofNat m).toNat=m:=by rw [ed];omega
 obtain ⟨x',t,ap,O5,_⟩:=FB.lit hF (cs:=[UInt8.ofNat m]) (by simp;omega)
 rw [ou.1] at O5
 refine ⟨t,?_,O5.gr⟩
 have hw:IntKind.u8.wrap (m:Int)=(m:Int):=by rw [fP];omega
 have hs:=RB.str O5.rd
 simp only [U,List.map_cons,List.map_nil,List.length_cons,List.length_nil,Nat.zero_add,hb] at ap
 simp [Zj,hw,nw,ap,hs]
theorem Ie (d:Nat) (wf:s.wf) (q:Nat):∃ t,R (d+1) 74 [I .u32 q] s=some (Z (.str (four q)),t)/\Gr s t:=by
 rw [MU]
 unfold f74
 have nw:=R1 s (q%256) (q / 2 ^ 8%256) (q / 2 ^ 16%256) (q / 2 ^ 24%256)
 have hU:U (four q)=[.int .u8 (q%256:Nat),.int .u8 (q / 2 ^ 8%256:Nat),.int .u8 (q / 2 ^ 16%256:Nat),.int .u8 (q / 2 ^ 24%256:Nat)]:=by
  simp only [U,four,List.map_cons,List.map_nil,ed]
 rw [← hU] at nw
 have c0:=fP q
 have c1:=fP (q / 2 ^ 8)
 have c2:=fP (q / 2 ^ 16)
 have c3:=fP (q / 2 ^ 24)
 have r1:af .shr (I .u32 q) (I .u64 8)=some (I .u32 ((q / 2 ^ 8:Nat))):=eX .u32 q 8 (by decide)
 have r2:af .shr (I .u32 q) (I .u64 16)=some (I .u32 ((q / 2 ^ 16:Nat))):=eX .u32 q 16 (by decide)
 have r3:af .shr (I .u32 q) (I .u64 24)=some (I .u32 ((q / 2 ^ 24:Nat))):=eX .u32 q 24 (by decide)
 have g:Gr s (s.push (.cells true (U (four q)))):=Gr.push wf _
 have rd:RB (s.push (.cells true (U (four q)))) (.sl s.size 0 4 (.known 4)) (four q):=(Fr.lit 1 wf (n:=4) (vs:=U (four q)) rfl).rd
 have hs:=rd.str
 refine ⟨_,?_,g⟩
 generalize s.push (.cells true (U (four q)))=t at nw hs ⊢
 generalize ((q / 2 ^ 8%256:Nat):Int)=Q1 at nw c1
 generalize ((q / 2 ^ 16%256:Nat):Int)=Q2 at nw c2
 generalize ((q / 2 ^ 24%256:Nat):Int)=Q3 at nw c3
 generalize ((q%256:Nat):Int)=Q0 at nw c0
 generalize ((q / 2 ^ 8:Nat):Int)=P1 at r1 c1
 generalize ((q / 2 ^ 16:Nat):Int)=P2 at r2 c2
 generalize ((q / 2 ^ 24:Nat):Int)=P3 at r3 c3
 generalize (q:Int)=Q at *
 simp [c0,c1,c2,c3,r1,r2,r3,nw,hs]
theorem Kb (d:Nat) (hl:bs.length<=8000):R (d+2) 75 [Z (.str bs)] s=some (I .u32 (bT 1 bs),s):=by
 have key:R (d+1) 117 [I .u32 1,Z (.str bs)] s=some (I .u32 (bT 1 bs),s):=by
  rw [Hg]
  unfold f117
  have eo:=NX bs
  obtain ⟨j,τ,lp,hj,ph⟩:=aV (f:=rV (R d) 8192) (fun q v u=>∃ k n:Nat,q+k=bs.length/\v=[Z (.str bs),I .u64 n,I .i64 k]/\u=s/\n<4294967291/\bT n (bs.drop k)=bT 1 bs)
   (fun j u=>j = .exit 0 [I .u64 (bT 1 bs)]/\u=s) (by
   rintro q v u ⟨k,n,hk,rfl,rfl,hn,hg⟩
   by_cases eZ:k<bs.length
   · left
     have hc:bs[k]? = some bs[k]:=List.getElem?_eq_getElem eZ
     have hd:bs.drop k=bs[k]::bs.drop (k+1):=List.drop_eq_getElem_cons eZ
     rw [hd] at hg
     have ix:=xo (n:=(k:Int)) rfl hc
     have Rp:bs[k].toNat<256:=bs[k].toNat_lt
     obtain ⟨A1,A2,A3,A4,TY,m1,m2,m3,m4⟩:∃ A1 A2 A3 A4:Int,A4=(((n*257+bs[k].toNat+1)%4294967291:Nat):Int)/\af .mul (I .u64 n) (I .u64 257)=some (I .u64 A1)/\af .add (I .u64 A1) (I .u64 bs[k].toNat)=some (I .u64 A2) ∧
      af .add (I .u64 A2) (I .u64 1)=some (I .u64 A3)/\af .rem (I .u64 A3) (I .u64 4294967291)=some (I .u64 A4):=⟨_,_,_,_,rfl,PG.step n bs[k].toNat hn Rp u⟩
     have hw:IntKind.u64.wrap (bs[k].toNat:Int)=(bs[k].toNat:Int):=wrap64 _ (by omega)
     have w1:IntKind.i64.wrap ((k:Int)+1)=((k+1:Nat):Int):=by rw [aE _ (by omega) (by omega)];omega
     have c0:((k:Int)<(bs.length:Int))=True:=eq_true (by omega)
     refine ⟨[Z (.str bs),I .u64 (((n*257+bs[k].toNat+1)%4294967291:Nat)),I .i64 ((k+1:Nat):Int)],u,q-1,?_,by omega,k+1,_,by omega,rfl,rfl,Nat.mod_lt _ (by decide),hg⟩
     unfold rV
     generalize ((k+1:Nat):Int)=K1 at w1 ⊢
     rw [← TY]
     generalize (bs[k].toNat:Int)=C at m2 ix hw
     generalize (k:Int)=K at w1 ix c0 ⊢
     simp only [p9,fC,List.getD_cons_zero,List.getD_cons_succ,eo,xZ,jf,decide_true,c0,ix,m1,m2,m3,m4,aY,hw,dH,w1]
   · right
     have hk':k=bs.length:=by omega
     have c0:¬ ((k:Int)<(bs.length:Int)):=by omega
     have vI:n=bT 1 bs:=by
      rw [List.drop_eq_nil_of_le (by omega)] at hg
      exact hg
     refine ⟨.exit 0 [I .u64 (bT 1 bs)],u,?_,(fun v hv=>by cases hv),rfl,rfl⟩
     unfold rV
     rw [vI]
     simp [eo,c0]) 8192 bs.length [Z (.str bs),I .u64 1,I .i64 0] s ⟨0,1,rfl,rfl,rfl,by decide,rfl⟩ (by omega)
  subst hj;subst ph
  have hlt:=kG bs 1 (by decide)
  have Rb:IntKind.u32.wrap (bT 1 bs:Int)=(bT 1 bs:Int):=by rw [wrap32,Nat.mod_eq_of_lt (by omega)]
  have e1:aI .u64 (I .u32 1)=some (I .u64 1):=rfl
  have e2:af .rem (I .u64 1) (I .u64 4294967291)=some (I .u64 1):=rfl
  simp [e1,e2,lp,Rb]
 rw [MW]
 unfold f75
 simp [key]
end
section
variable {s t u s0:St} {x y b lx bx:S} {l acc:List eU} {bs:Bs} {p:Nat} {r:Rr} {g:Sg}
theorem uz (d:Nat) {n:Int} (h:I6 n):R (d+1) 115 [I .i64 n] s=some (I .u64 (dF n:Nat),s):=by
 rw [Hf]
 unfold f115
 obtain ⟨h1,h2⟩:=h
 by_cases hn:0<=n
 · obtain ⟨m,hm⟩:∃ m:Nat,(m:Int)=n:=⟨n.toNat,by omega⟩
   subst hm
   have e1:aI .u64 (I .i64 (m:Int))=some (I .u64 (m:Int)):=by rw [aY,wrap64 _ (by omega)]
   have e2:IntKind.u64.wrap ((m:Int)*2)=((dF m:Nat):Int):=by
    have:dF m=m*2:=by unfold dF;rw [if_neg (by omega)];omega
    rw [this,show (m:Int)*2=((m*2:Nat):Int) by omega,wrap64 _ (by omega)]
   generalize ((dF m:Nat):Int)=z at *
   have pg:(0:Int)<=(m:Int):=hn
   generalize (m:Int)=mm at *
   simp [pg,e1,e2]
 · obtain ⟨m,hm⟩:∃ m:Nat,(m:Int) = -n-1:=⟨(-n-1).toNat,by omega⟩
   have w1:IntKind.i64.wrap (n+1)=n+1:=aE _ (by omega) (by omega)
   have w2:jZ .neg (I .i64 (n+1))=some (I .i64 (m:Int)):=by
    show some (I .i64 (IntKind.i64.wrap (0-(n+1))))=_
    rw [show 0-(n+1)=(m:Int) by omega,rF _ (by omega)]
   have e1:aI .u64 (I .i64 (m:Int))=some (I .u64 (m:Int)):=by rw [aY,wrap64 _ (by omega)]
   have e2:IntKind.u64.wrap ((m:Int)*2)=((m*2:Nat):Int):=by rw [show (m:Int)*2=((m*2:Nat):Int) by omega,wrap64 _ (by omega)]
   have e3:IntKind.u64.wrap (((m*2:Nat):Int)+1)=((dF n:Nat):Int):=by
    have:dF n=m*2+1:=by unfold dF;rw [if_pos (by omega)];omega
    rw [this,show ((m*2:Nat):Int)+1=((m*2+1:Nat):Int) by omega,wrap64 _ (by omega)]
   clear hm
   generalize ((dF n:Nat):Int)=z at *
   generalize ((m*2:Nat):Int)=m2 at *
   generalize (m:Int)=mm at *
   simp [hn,w1,w2,e1,e2,e3]
theorem uu:∀ (l:List eU) (last:Int),-1<=last->cH last l=true->∀ (k:Nat) (a:eU),l[k]? = some a->(0:Int)<=a.t/\a.t<=1099511627776/\(∀ b:eU,0<k->l[k-1]? = some b->b.t<a.t)
 | [],_,_,_,k,a,h=>by simp at h
 | x::r,last,hl,hr,k,a,h=>by
   simp only [cH,Bool.and_eq_true,decide_eq_true_eq] at hr
   cases k with
   | zero =>
     simp at h
     subst h
     exact ⟨by omega,hr.1.2,fun b hb=>by omega⟩
   | succ k =>
     simp at h
     obtain ⟨h1,h2,h3⟩:=uu r x.t (by omega) hr.2 k a h
     refine ⟨h1,h2,fun b _ hb => ?_⟩
     rw [Nat.add_sub_cancel] at hb
     cases k with
     | zero =>
       simp at hb
       subst hb
       exact (iU hr.2 a (List.mem_of_getElem? h)).1
     | succ k=>exact h3 b (by omega) (by simpa using hb)
theorem rj (d:Nat) (h:pn s x l) (hl:l.length<=8000) (hr:cH (-1) l=true):R (d+1) 112 [Z x] s=some (B true,s):=by
 have ll:=h.lens
 have hall:=uu l (-1) (by omega) hr
 obtain ⟨j,τ,lp,rfl,rfl⟩:=aV (f:=rU (R d) 8192)
  (fun q v u=>∃ (k:Nat),q+k=l.length/\v=[Z x,I .i64 (k:Nat)]/\u=s)
  (fun j u=>j = .exit 0 []/\u=s) (by
  rintro q v u ⟨k,hq,rfl,rfl⟩
  by_cases hk:k<l.length
  · left
    obtain ⟨a,ha⟩:∃ a,l[k]? = some a:=⟨_,List.getElem?_eq_getElem hk⟩
    obtain ⟨h1,h2,h3⟩:=hall k a ha
    obtain ⟨c,p,ix,_,lt,_⟩:=pn.Eo h (n:=((k:Nat):Int)) rfl ha
    have c0:((k:Nat):Int)<((l.length:Nat):Int):=by omega
    have c1:¬ a.t<0:=by omega
    have c2:¬ 1099511627776<a.t:=by omega
    have w1:IntKind.i64.wrap ((k:Int)+1)=((k+1:Nat):Int):=by rw [aE _ (by omega) (by omega)];omega
    refine ⟨[Z x,I .i64 ((k+1:Nat):Int)],u,q-1,?_,by omega,k+1,by omega,rfl,rfl⟩
    unfold rU
    cases k with
    | zero =>
      have k0:((0:Nat):Int)=0:=rfl
      rw [k0] at ix c0 w1
      generalize ((0+1:Nat):Int)=K1 at *
      generalize ((l.length:Nat):Int)=LL at *
      have Gs:IntKind.i64.wrap 1=K1:=by simpa using w1
      simp [ll,c0,ix,lt,c1,c2,kN,Gs]
    | succ k =>
      obtain ⟨b,hb⟩:∃ b,l[k]? = some b:=⟨_,List.getElem?_eq_getElem (by omega)⟩
      have h4:=h3 b (by omega) (by simpa using hb)
      obtain ⟨c',p',tS,_,Vc,_⟩:=pn.Eo h (n:=((k:Nat):Int)) rfl hb
      have w2:IntKind.i64.wrap (((k+1:Nat):Int)-1)=((k:Nat):Int):=by rw [aE _ (by omega) (by omega)];omega
      have c3:0<((k+1:Nat):Int):=by omega
      have c4:¬ a.t<=b.t:=by omega
      generalize ((k+1+1:Nat):Int)=K2 at *
      generalize ((k+1:Nat):Int)=K1 at *
      generalize ((k:Nat):Int)=K0 at *
      generalize ((l.length:Nat):Int)=LL at *
      simp [ll,c0,ix,lt,c1,c2,c3,w2,tS,Vc,c4,kN,w1]
  · right
    have hkk:k=l.length:=by omega
    subst hkk
    refine ⟨.exit 0 [],u,?_,(fun v h=>by cases h),rfl,rfl⟩
    unfold rU
    generalize ((l.length:Nat):Int)=LL at *
    simp [ll])
  8192 l.length _ s ⟨0,by omega,rfl,rfl⟩ (by omega)
 rw [He]
 unfold f112
 have e0:((0:Nat):Int)=0:=rfl
 rw [e0] at lp
 simp [lp]
set_option maxHeartbeats 4000000 in
theorem CG (d:Nat) {k:Nat} {step:Int} {acc rest:Bs} (wf:u.wf) (h:pn u x l) (eQ:∀ c,own x=some c->c<u.size) (hr:nO l k step rest) (hk:k<l.length) (hl:l.length<=64) (ht:∀ a∈l,I6 a.t/\0<=a.t/\I6 a.v) (ha:acc.length<=22*k+11) :
 ∃ u' jq kX rest',pK (R (d+1)) 8192 [Z x,Z (.str acc),I .i64 step,I .i64 (k:Nat)] u=some (.normal [Z x,Z (.str kX),I .i64 jq,I .i64 ((k+1:Nat):Int)],u') ∧
   Gr u u'/\nO l (k+1) jq rest'/\kX++rest'=acc++rest/\kX.length<=22*(k+1)+11:=by
 have c0:((k:Nat):Int)<((l.length:Nat):Int):=by omega
 have ll:=h.lens
 have w1:IntKind.i64.wrap ((k:Int)+1)=((k+1:Nat):Int):=by rw [aE _ (by omega) (by omega)];omega
 obtain ⟨a,Rk⟩:∃ a,a=l[k]:=⟨_,rfl⟩
 have xQ:l[k]? = some a:=by rw [List.getElem?_eq_getElem hk,Rk]
 obtain ⟨yJ,at0,OZ⟩:=ht a (List.mem_of_getElem? xQ)
 obtain ⟨c,p,ix,_,lt,lv⟩:=pn.Eo h (n:=((k:Nat):Int)) rfl xQ
 have jy:=eQ c (oL ix)
 have vl:∀ n,(aP n).length<=11:=bF
 rcases hr with ⟨rfl,rfl,⟨rfl,_⟩ | ⟨a',r,rfl,rfl⟩⟩ | ⟨j,was,rfl,hj,hst,rfl⟩
 · simp at hk
 · have:a'=a:=by simpa using xQ
   subst this
   have c1:aI .u64 (I .i64 a'.t)=some (I .u64 (a'.t.toNat:Nat)):=by
    have h1:a'.t=(a'.t.toNat:Int):=by omega
    have h2:=yJ.2
    rw [aY]
    have:=wrap64 a'.t.toNat (by omega)
    rw [← h1] at this
    rw [this]
    congr 3
   obtain ⟨u3,e3,g3⟩:=eC d wf a'.t.toNat (by have:=yJ.2;omega)
   have s3:=gE acc (aP a'.t.toNat) (by have:=vl a'.t.toNat;omega)
   have Zk:ab (Z (.ptr c (p+1))) u3.get=some (I .i64 a'.v):=by rw [qf (g3.2.2 c jy)];exact lv
   have e5:=uz (s:=u3) d OZ
   obtain ⟨u6,e6,g6⟩:=eC d g3.wf (dF a'.v) (kL OZ)
   have s6:=gE (acc++aP a'.t.toNat) (aP (dF a'.v)) (by have:=vl a'.t.toNat;have:=vl (dF a'.v);rw [List.length_append];omega)
   refine ⟨u6,0,(acc++aP a'.t.toNat)++aP (dF a'.v),fU 0 a' r,?_,g3.trans g6,.inr ⟨0,a',rfl,rfl,by unfold I6;omega,rfl⟩,by simp [iO,List.append_assoc],by have:=vl a'.t.toNat;have:=vl (dF a'.v);rw [List.length_append,List.length_append];omega⟩
   unfold pK
   have k0:((0:Nat):Int)=0:=rfl
   rw [k0] at ix c0
   have w1:IntKind.i64.wrap 1=((0+1:Nat):Int):=rfl
   generalize R (d+1)=rr at *
   generalize acc++aP a'.t.toNat=A1 at *
   generalize A1++aP (dF a'.v)=A2 at *
   generalize aP a'.t.toNat=V1 at *
   generalize dF a'.v=zv at *
   generalize aP zv=V2 at *
   generalize ((zv:Nat):Int)=zz at *
   generalize ((a'.t.toNat:Nat):Int)=tn at *
   generalize ((0+1:Nat):Int)=K1 at *
   generalize (((a'::r).length:Nat):Int)=LL at *
   simp [ll,c0,ix,lt,c1,e3,s3,lv,Zk,e5,e6,s6,w1]
 · have YU:=ht was (List.mem_of_getElem? hj)
   have c1:¬ ((j+1:Nat):Int)=0:=by omega
   have w2:IntKind.i64.wrap (((j+1:Nat):Int)-1)=((j:Nat):Int):=by rw [aE _ (by omega) (by omega)];omega
   obtain ⟨c',p',tS,_,Vc,R3⟩:=pn.Eo h (n:=((j:Nat):Int)) rfl hj
   have e5:=uz (s:=u) d (iX (W6 (a.t-was.t)-step))
   obtain ⟨u3,e3,g3⟩:=eC d wf (dF (W6 (W6 (a.t-was.t)-step))) (kL (iX _))
   have s3:=gE acc (aP (dF (W6 (W6 (a.t-was.t)-step)))) (by have:=vl (dF (W6 (W6 (a.t-was.t)-step)));omega)
   have e8:=uz (s:=u3) d (iX (a.v-was.v))
   obtain ⟨u6,e6,g6⟩:=eC d g3.wf (dF (W6 (a.v-was.v))) (kL (iX _))
   have s6:=gE (acc++aP (dF (W6 (W6 (a.t-was.t)-step)))) (aP (dF (W6 (a.v-was.v)))) (by have:=vl (dF (W6 (W6 (a.t-was.t)-step)));have:=vl (dF (W6 (a.v-was.v)));rw [List.length_append];omega)
   have m6:l.drop (j+1)=a::l.drop (j+1+1):=by rw [List.drop_eq_getElem_cons hk,Rk]
   have hv:∀ n:Int,∃ m,aI .u64 (I .i64 n)=some (I .u64 m)/\∃ k:Int,m=n+18446744073709551616*k:=fun n=>by
    refine ⟨_,aY _ _ _,?_⟩
    unfold IntKind.wrap
    simp [IntKind.signed,IntKind.bits]
    exact ⟨-(n / 18446744073709551616),by omega⟩
   obtain ⟨m1,Ns,k1,jb⟩:=hv a.v
   obtain ⟨m2,Rz,k2,hk2⟩:=hv was.v
   have hsub:∃ m3,af .sub (I .u64 m1) (I .u64 m2)=some (I .u64 m3)/\aI .i64 (I .u64 m3)=some (I .i64 (W6 (a.v-was.v))):=by
    refine ⟨_,js _ _ _,?_⟩
    rw [aY]
    have:∃ k:Int,IntKind.u64.wrap (m1-m2)=(a.v-was.v)+18446744073709551616*k:=by
     unfold IntKind.wrap
     simp [IntKind.signed,IntKind.bits]
     exact ⟨k1-k2-(m1-m2) / 18446744073709551616,by omega⟩
    obtain ⟨k,hk⟩:=this
    show some (I .i64 (W6 (IntKind.u64.wrap (m1-m2))))=_
    rw [PF hk]
   obtain ⟨m3,S6,hm4⟩:=hsub
   refine ⟨u6,W6 (a.t-was.t),(acc++aP (dF (W6 (W6 (a.t-was.t)-step))))++aP (dF (W6 (a.v-was.v))),fU (W6 (a.t-was.t)) a (l.drop (j+1+1)),?_,g3.trans g6,.inr ⟨j+1,a,rfl,xQ,iX _,rfl⟩,?_,?_⟩
   · unfold pK
     have q1:af .sub (I .i64 a.t) (I .i64 was.t)=some (I .i64 (W6 (a.t-was.t))):=by rw [js]
     have q2:af .sub (I .i64 (W6 (a.t-was.t))) (I .i64 step)=some (I .i64 (W6 (W6 (a.t-was.t)-step))):=by rw [js]
     clear m6 hv jb hk2
     generalize R (d+1)=rr at *
     generalize W6 (W6 (a.t-was.t)-step)=A1 at *
     generalize W6 (a.t-was.t)=A2 at *
     generalize W6 (a.v-was.v)=A3 at *
     generalize acc++aP (dF A1)=B1 at *
     generalize B1++aP (dF A3)=B2 at *
     generalize aP (dF A1)=V1 at *
     generalize aP (dF A3)=V3 at *
     generalize ((dF A1:Nat):Int)=z1 at *
     generalize ((dF A3:Nat):Int)=z3 at *
     generalize ((j+1+1:Nat):Int)=K2 at *
     generalize ((j+1:Nat):Int)=K1 at *
     generalize ((j:Nat):Int)=K0 at *
     generalize ((l.length:Nat):Int)=LL at *
     simp [ll,c0,c1,ix,lt,w2,tS,Vc,q1,lv,Ns,R3,Rz,S6,hm4,q2,e5,e3,s3,e8,e6,s6,w1]
   · rw [m6];simp [fU,List.append_assoc]
   · have:=vl (dF (W6 (W6 (a.t-was.t)-step)));have:=vl (dF (W6 (a.v-was.v)))
     rw [List.length_append,List.length_append];omega
end
section
variable {s t u s0:St} {x y b lx bx:S} {l acc:List eU} {bs:Bs} {p:Nat} {r:Rr} {g:Sg}
set_option maxHeartbeats 2000000 in
theorem J2 (d:Nat) (wf:s.wf) (h:pn s x l) (eQ:∀ c,own x=some c->c<s.size) (hok:Am l=true) (hv:∀ a∈l,I6 a.v):∃ t,R (d+2) 72 [Z x] s=some (.eF [.s (.str (bp l)),.s (.int .i64 0)],t)/\Gr s t:=by
 have tL:=hok
 unfold Am at tL
 rw [Bool.and_eq_true] at tL
 have hl:l.length<=64:=Nat.le_of_ble_eq_true tL.2
 have ht:∀ a∈l,I6 a.t/\0<=a.t/\I6 a.v:=fun a ha=>by
  have h1:=iU tL.1 a ha
  have h2:=hv a ha
  unfold I6 at *
  omega
 have e1:=rj d h (by omega) tL.1
 have ll:=h.lens
 have c1:¬ 64<((l.length:Nat):Int):=by omega
 have c2:aI .u64 (I .i64 ((l.length:Nat):Int))=some (I .u64 ((l.length:Nat):Int)):=by rw [aY,wrap64 _ (by omega)]
 obtain ⟨s2,e2,g2⟩:=eC d wf l.length (by omega)
 have hblk:∃ rest,nO l 0 0 rest/\aP l.length++rest=bp l:=by
  cases l with
  | nil=>exact ⟨[],.inl ⟨rfl,rfl,.inl ⟨rfl,rfl⟩⟩,by simp [bp]⟩
  | cons a r=>exact ⟨iO a++fU 0 a r,.inl ⟨rfl,rfl,.inr ⟨a,r,rfl,rfl⟩⟩,by simp [bp]⟩
 obtain ⟨rest,hr,nL⟩:=hblk
 obtain ⟨j,τ,lp,rfl,hF⟩:=aV (f:=pK (R (d+1)) 8192)
  (fun q v u=>∃ (k:Nat) (step:Int) (acc rest:Bs),q+k=l.length/\v=[Z x,Z (.str acc),I .i64 step,I .i64 (k:Nat)]/\Gr s u/\nO l k step rest/\acc++rest=bp l/\acc.length<=22*k+11)
  (fun j u=>j = .exit 0 [Z (.str (bp l))]/\Gr s u) (by
  rintro q v u ⟨k,step,acc,rest,hq,rfl,hg,hr,nL,hal⟩
  have hu:=h.gr eQ hg
  by_cases hk:k<l.length
  · left
    obtain ⟨u',jq,kX,rest',e,vI,hr',B6,Rl⟩:=CG d hg.wf hu (fun c hc=>Nat.lt_of_lt_of_le (eQ c hc) hg.2.1) hr hk hl ht hal
    exact ⟨_,u',q-1,e,by omega,k+1,jq,kX,rest',by omega,rfl,hg.trans vI,hr',by rw [B6,nL],Rl⟩
  · right
    have hkk:k=l.length:=by omega
    subst hkk
    have:=wG hr (Nat.le_refl _)
    subst this
    rw [List.append_nil] at nL
    subst nL
    have lu:=hu.lens
    refine ⟨_,u,?_,(fun v h=>by cases h),rfl,hg⟩
    unfold pK
    generalize ((l.length:Nat):Int)=LL at *
    simp [lu])
  8192 l.length _ s2 ⟨0,0,aP l.length,rest,by omega,rfl,g2,hr,nL,by have:=bF l.length;omega⟩ (by omega)
 refine ⟨τ,?_,hF⟩
 rw [MT]
 unfold f72
 have e0:((0:Nat):Int)=0:=rfl
 rw [e0] at lp
 generalize R (d+1)=rr at *
 generalize bp l=BB at *
 generalize ((l.length:Nat):Int)=LL at *
 simp [e1,ll,c1,c2,e2,lp,aQ,bK,kN]
set_option maxHeartbeats 1000000 in
theorem Ka (d:Nat) (wf:s.wf) (h:j4 g) (hx:pn s x g.l) (eQ:∀ c,own x=some c->c<s.size):∃ t,R (d+2) 70 [AG g x] s=some (B true,t)/\Gr s t:=by
 obtain ⟨s1,hs1⟩:∃ s1,s1=s.push (.cells true (cG g x)):=⟨_,rfl⟩
 have nw:aL s (cf (AG g x))=some (Z (.ptr s.size 0),s1):=by rw [hs1];rfl
 have g1:Gr s s1:=by rw [hs1];exact Gr.push wf _
 have b1:s1.get s.size=some (.cells true (cG g x)):=by rw [hs1];exact St.aq _ _
 have q0:ab (Z (.ptr s.size 0)) s1.get=some (I .i64 g.i):=ai b1 rfl
 have q1:ab (Z (.ptr s.size 1)) s1.get=some (I .i64 0):=ai b1 rfl
 have q2:ab (Z (.ptr s.size 2)) s1.get=some (I .i64 g.f):=ai b1 rfl
 have q3:ab (Z (.ptr s.size 3)) s1.get=some (I .i64 g.o):=ai b1 rfl
 have q4:ab (Z (.ptr s.size 4)) s1.get=some (Z x):=ai b1 rfl
 have q5:ab (Z (.ptr s.size 5)) s1.get=some (Z .ay):=ai b1 rfl
 have hx1:=hx.gr eQ g1
 have hf:=h.Dj
 have hok:=h.ok
 unfold Am at hok
 rw [Bool.and_eq_true] at hok
 have e3:=rj d hx1 (by omega) hok.1
 have hpos:0<g.l.length:=List.length_pos_iff.2 h.ne
 obtain ⟨a,ha⟩:∃ a,g.l[0]? = some a:=⟨_,List.getElem?_eq_getElem hpos⟩
 obtain ⟨z,hz⟩:∃ z,g.l[g.l.length-1]? = some z:=⟨_,List.getElem?_eq_getElem (by omega)⟩
 have uY:g.l.getLast? = some z:=by rw [List.getLast?_eq_getElem?];exact hz
 have h1:=h.lo a ha
 have h2:=h.hi z uY
 obtain ⟨ca,pa,ia,_,la,_⟩:=pn.Eo hx1 (n:=0) (j:=0) rfl ha
 obtain ⟨cz,pz,iz,_,lz,_⟩:=pn.Eo hx1 (n:=((g.l.length:Nat):Int)-1) (j:=g.l.length-1) (by omega) hz
 have ll:=hx1.lens
 have w1:IntKind.i64.wrap (((g.l.length:Nat):Int)-1)=((g.l.length:Nat):Int)-1:=aE _ (by omega) (by omega)
 have c1:(1:Int)<=((g.l.length:Nat):Int):=by omega
 have c2:((g.l.length:Nat):Int)<=64:=by omega
 have i1:¬ g.i<1:=by have:=h.i1;omega
 have i2:¬ 1073741824<g.i:=by have:=h.i2;omega
 have i3:¬ g.f<0:=by have:=h.f0;omega
 have i4:¬ g.o<=g.f:=by have:=h.fo;omega
 have i5:¬ 1099511627776<g.o:=by have:=h.o2;omega
 refine ⟨s1,?_,g1⟩
 rw [MR]
 unfold f70
 generalize R (d+1)=rr at *
 generalize s.size=ss at *
 generalize ((g.l.length:Nat):Int)=LL at *
 simp [nw,q0,i1,i2,q1,q2,i3,q3,i4,i5,q4,q5,ll,c1,c2,e3,ia,la,h1,w1,iz,lz,h2,wq,kN]
set_option maxHeartbeats 4000000 in
theorem AB (d:Nat) (wf:s.wf) (h:j4 g) (hx:pn s x g.l) (eQ:∀ c,own x=some c->c<s.size):∃ t,R (d+3) 20 [AG g x] s=some (.eF [.s (.str (cJ g)),.s (.int .i64 0)],t)/\Gr s t:=by
 obtain ⟨s1,hs1⟩:∃ s1,s1=s.push (.cells true (cG g x)):=⟨_,rfl⟩
 have nw:aL s (cf (AG g x))=some (Z (.ptr s.size 0),s1):=by rw [hs1];rfl
 have g1:Gr s s1:=by rw [hs1];exact Gr.push wf _
 have b1:s1.get s.size=some (.cells true (cG g x)):=by rw [hs1];exact St.aq _ _
 have q6:=nB (m:=s1.get) b1
 have hx1:=hx.gr eQ g1
 have uX:∀ c,own x=some c->c<s1.size:=fun c hc=>Nat.lt_of_lt_of_le (eQ c hc) g1.2.1
 obtain ⟨s2,e2,g2⟩:=Ka d g1.wf h hx1 uX
 have b2:=g2.get b1 g1.wf
 have h1:=h.i1
 have h2:=h.i2
 have h3:=h.f0
 have h4:=h.fo
 have h5:=h.o2
 have c0:aI .u64 (I .i64 g.i)=some (I .u64 (g.i.toNat:Nat)):=by
  rw [aY]
  have:=wrap64 g.i.toNat (by omega)
  rw [show ((g.i.toNat:Nat):Int)=g.i by omega] at this
  rw [this,show ((g.i.toNat:Nat):Int)=g.i by omega]
 have c2:aI .u64 (I .i64 g.f)=some (I .u64 (g.f.toNat:Nat)):=by
  rw [aY]
  have:=wrap64 g.f.toNat (by omega)
  rw [show ((g.f.toNat:Nat):Int)=g.f by omega] at this
  rw [this,show ((g.f.toNat:Nat):Int)=g.f by omega]
 have w3:IntKind.i64.wrap (g.o-g.f)=g.o-g.f:=aE _ (by omega) (by omega)
 have c3:aI .u64 (I .i64 (g.o-g.f))=some (I .u64 ((g.o-g.f).toNat:Nat)):=by
  rw [aY]
  have:=wrap64 (g.o-g.f).toNat (by omega)
  rw [show (((g.o-g.f).toNat:Nat):Int)=g.o-g.f by omega] at this
  rw [this,show (((g.o-g.f).toNat:Nat):Int)=g.o-g.f by omega]
 have c1:aI .u64 (I .i64 0)=some (I .u64 (0:Nat)):=rfl
 have vl:∀ n,(aP n).length<=11:=bF
 have v0:=vl g.i.toNat
 have v1:=vl 0
 have v2:=vl g.f.toNat
 have v3:=vl (g.o-g.f).toNat
 obtain ⟨s4,e4,g4⟩:=eC (d+1) g2.wf g.i.toNat (by omega)
 obtain ⟨s5,e5,g5⟩:=eC (d+1) g4.wf 0 (by omega)
 obtain ⟨s6,e6,g6⟩:=eC (d+1) g5.wf g.f.toNat (by omega)
 obtain ⟨s7,e7,g7⟩:=eC (d+1) g6.wf (g.o-g.f).toNat (by omega)
 have b4:=g4.get b2 g2.wf
 have b5:=g5.get b4 g4.wf
 have b6:=g6.get b5 g5.wf
 have b7:=g7.get b6 g6.wf
 have q0:ab (Z (.ptr s.size 0)) s2.get=some (I .i64 g.i):=ai b2 rfl
 have Vp:ab (Z (.ptr s.size 1)) s2.get=some (I .i64 0):=ai b2 rfl
 have q41:ab (Z (.ptr s.size 1)) s4.get=some (I .i64 0):=ai b4 rfl
 have W7:ab (Z (.ptr s.size 2)) s2.get=some (I .i64 g.f):=ai b2 rfl
 have q42:ab (Z (.ptr s.size 2)) s4.get=some (I .i64 g.f):=ai b4 rfl
 have q52:ab (Z (.ptr s.size 2)) s5.get=some (I .i64 g.f):=ai b5 rfl
 have q62:ab (Z (.ptr s.size 2)) s6.get=some (I .i64 g.f):=ai b6 rfl
 have q23:ab (Z (.ptr s.size 3)) s2.get=some (I .i64 g.o):=ai b2 rfl
 have q43:ab (Z (.ptr s.size 3)) s4.get=some (I .i64 g.o):=ai b4 rfl
 have q53:ab (Z (.ptr s.size 3)) s5.get=some (I .i64 g.o):=ai b5 rfl
 have q63:ab (Z (.ptr s.size 3)) s6.get=some (I .i64 g.o):=ai b6 rfl
 have Vq:ab (Z (.ptr s.size 1)) s7.get=some (I .i64 0):=ai b7 rfl
 have q74:ab (Z (.ptr s.size 4)) s7.get=some (Z x):=ai b7 rfl
 have a0:=gE [84,75] (aP g.i.toNat) (by simp;omega)
 have a1:=gE ([84,75]++aP g.i.toNat) (aP 0) (by simp;omega)
 have a2:=gE (([84,75]++aP g.i.toNat)++aP 0) (aP g.f.toNat) (by simp;omega)
 have a3:=gE ((([84,75]++aP g.i.toNat)++aP 0)++aP g.f.toNat) (aP (g.o-g.f).toNat) (by simp;omega)
 have hh:((([84,75]++aP g.i.toNat)++aP 0)++aP g.f.toNat)++aP (g.o-g.f).toNat=ja g:=by simp [ja,List.append_assoc]
 rw [hh] at a3
 have g17:=(((g2.trans g4).trans g5).trans g6).trans g7
 have hx7:=hx1.gr uX g17
 obtain ⟨s8,e8,g8⟩:=J2 d g7.wf hx7 (fun c hc=>by have:=uX c hc;have:=g17.2.1;omega) h.ok h.vs
 have nL:=iA h
 have B6:(ja g).length+(bp g.l).length<=1500:=by unfold bo at nL;rwa [List.length_append] at nL
 have a4:=gE (ja g) (bp g.l) (by omega)
 rw [show ja g++bp g.l=bo g from rfl] at a4
 have e9:=Kb (s:=s8) d (bs:=bo g) (by omega)
 obtain ⟨bM,qG,g10⟩:=Ie (d+1) g8.wf (bT 1 (bo g))
 have hfl:(four (bT 1 (bo g))).length=4:=rfl
 have a5:=gE (bo g) (four (bT 1 (bo g))) (by omega)
 rw [show bo g++four (bT 1 (bo g))=cJ g from rfl] at a5
 have uK:=jV h
 have ls:bN (Z (.str (cJ g)))=some (I .i64 (cJ g).length):=rfl
 have cF:¬ 4000<(((cJ g).length:Nat):Int):=by omega
 refine ⟨bM,?_,(g1.trans g17).trans (g8.trans g10)⟩
 rw [Ml]
 unfold f20
 clear nL B6 hfl uK hh v0 v1 v2 v3 vl h1 h2 h3 h4 h5
 generalize R (d+2)=rr at *
 generalize s.size=ss at *
 generalize (((cJ g).length:Nat):Int)=SL at *
 generalize cJ g=SGB at *
 generalize four (bT 1 (bo g))=F4 at *
 generalize ((bT 1 (bo g):Nat):Int)=SB at *
 generalize bo g=BDB at *
 generalize ja g=HDB at *
 generalize bp g.l=BLB at *
 generalize (([84,75]++aP g.i.toNat)++aP 0)++aP g.f.toNat=X3 at *
 generalize ([84,75]++aP g.i.toNat)++aP 0=X2 at *
 generalize [84,75]++aP g.i.toNat=X1 at *
 generalize aP g.i.toNat=V0 at *
 generalize aP g.f.toNat=V2 at *
 generalize aP (g.o-g.f).toNat=V3 at *
 generalize aP 0=V1 at *
 generalize ((g.i.toNat:Nat):Int)=n0 at *
 generalize ((0:Nat):Int)=nz at *
 generalize ((g.f.toNat:Nat):Int)=n2 at *
 generalize (((g.o-g.f).toNat:Nat):Int)=n3 at *
 simp [nw,q6,e2,q0,c0,e4,a0,Vp,q41,c1,e5,a1,W7,q42,q52,c2,e6,a2,q23,q43,q53,q63,q62,w3,c3,e7,a3,Vq,q74,e8,ah,a4,e9,qG,a5,ls,cF,aQ,bK]
end
def fJ:Int->Nat->List Int->List eU
 | _,_,[]=>[]
 | t,i,x::r=>⟨t+1+((bP x%40:Nat):Int),(i:Int)⟩::fJ (t+1+((bP x%40:Nat):Int)) (i+1) r
def gI (f:Int) (a:eU):eU:=⟨a.t+f,a.v⟩
def dD (id f:Int) (steps:List Int):List eU:=(fJ 0 0 ((id::steps).take 40)).map (gI f)
def gY (id f:Int) (steps:List Int):Sg:=⟨1+((bP id%1000:Nat):Int),f,(dD id f steps).getLast?.elim 0 (·.t)+1+((bP id%7:Nat):Int),dD id f steps⟩
theorem iH:∀ (l:List Int) (t:Int) (i:Nat),(fJ t i l).length=l.length
 | [],_,_=>rfl
 | x::r,t,i=>by simp [fJ,iH r]
theorem wH:∀ (l:List Int) (t:Int) (i:Nat) (x:Int),∃ t',fJ t i (l++[x])=fJ t i l++[⟨t'+1+((bP x%40:Nat):Int),((i+l.length:Nat):Int)⟩]/\t<=t'/\t'<=t+40*l.length/\t'=(fJ t i l).getLast?.elim t (·.t)
 | [],t,i,x=>⟨t,by simp [fJ],Int.le_refl _,by simp,rfl⟩
 | y::r,t,i,x=>by
   obtain ⟨t',h1,h2,h3,h4⟩:=wH r (t+1+((bP y%40:Nat):Int)) (i+1) x
   have:=Nat.mod_lt (bP y) (show 0<40 by decide)
   refine ⟨t',?_,by omega,by simp only [List.length_cons];omega,?_⟩
   · simp only [List.cons_append,fJ,h1,List.length_cons]
     rw [show i+1+r.length=i+(r.length+1) by omega]
   · rw [h4]
     simp only [fJ]
     cases hr:fJ (t+1+((bP y%40:Nat):Int)) (i+1) r with
     | nil=>simp
     | cons a b=>simp [List.getLast?_cons]
theorem qp:∀ (l:List Int) (t:Int) (i:Nat),∀ a∈fJ t i l,t<a.t/\a.t<=t+40*l.length/\(i:Int)<=a.v/\a.v<i+l.length
 | [],_,_,a,h=>by cases h
 | x::r,t,i,a,h=>by
   have hm:=Nat.mod_lt (bP x) (show 0<40 by decide)
   rcases List.mem_cons.1 h with rfl | h
   · simp only [List.length_cons];omega
   · have:=qp r _ _ a h
     simp only [List.length_cons];omega
theorem oT:∀ (l:List Int) (t:Int) (i:Nat) (f:Int),t+40*l.length+f<=1099511627776->cH (t+f) ((fJ t i l).map (gI f))=true
 | [],_,_,_,_=>rfl
 | x::r,t,i,f,h=>by
   have hm:=Nat.mod_lt (bP x) (show 0<40 by decide)
   simp only [List.length_cons] at h
   have h1:=oT r (t+1+((bP x%40:Nat):Int)) (i+1) f (by omega)
   simp only [fJ,List.map_cons,cH,gI,Bool.and_eq_true,decide_eq_true_eq]
   exact ⟨⟨by omega,by omega⟩,h1⟩
theorem AA:∀ {l:List eU} {a b:Int},a<=b->cH b l=true->cH a l=true
 | [],_,_,_,_=>rfl
 | x::r,a,b,h,hr=>by
   simp only [cH,Bool.and_eq_true,decide_eq_true_eq] at hr ⊢
   exact ⟨⟨by omega,hr.1.2⟩,hr.2⟩
theorem DJ {id f:Int} {steps:List Int} (h0:0<=f) (h1:f<=1000000):j4 (gY id f steps):=by
 have hl:((id::steps).take 40).length<=40:=by rw [List.length_take];omega
 have hlen:(dD id f steps).length=((id::steps).take 40).length:=by simp [dD,iH]
 have hpos:0<(dD id f steps).length:=by rw [hlen];simp
 have m1:=Nat.mod_lt (bP id) (show 0<1000 by decide)
 have m2:=Nat.mod_lt (bP id) (show 0<7 by decide)
 have EU:∀ a∈dD id f steps,f<a.t/\a.t<=1600+f/\0<=a.v/\a.v<40:=fun a ha=>by
  obtain ⟨b,hb,rfl⟩:=List.mem_map.1 ha
  have:=qp _ _ _ b hb
  simp only [gI]
  omega
 obtain ⟨z,hz⟩:∃ z,(dD id f steps).getLast? = some z:=⟨_,List.getLast?_eq_some_getLast (List.length_pos_iff.1 hpos)⟩
 have yQ:=EU z (List.mem_of_getLast? hz)
 have lN:(dD id f steps).getLast?.elim 0 (·.t)=z.t:=by rw [hz];rfl
 refine ⟨by simp only [gY];omega,by simp only [gY];omega,h0,by simp only [gY];rw [lN];omega,by simp only [gY];rw [lN];omega,List.length_pos_iff.1 hpos,?_,fun a ha => ?_,fun a ha => ?_,fun a ha => ?_⟩
 · show Am (dD id f steps)=true
   unfold Am
   rw [Bool.and_eq_true]
   refine ⟨AA (a := -1) (b:=0+f) (by omega) (oT _ 0 0 f (by omega)),Nat.ble_eq_true_of_le (by rw [hlen];omega)⟩
 · have:=EU a ha
   unfold I6;omega
 · have:=EU a (List.mem_of_getElem? ha)
   show f<=a.t
   omega
 · have hza:z=a:=by
    have h2:(dD id f steps).getLast? = some a:=ha
    rw [hz] at h2;exact Option.some.inj h2
   simp only [gY]
   rw [lN,hza]
   omega
section
variable {s t u s0:St} {x y b lx bx:S} {l acc:List eU} {bs:Bs} {p:Nat} {r:Rr} {g:Sg} {is:List Int}
set_option maxHeartbeats 1000000 in
theorem J9 (d:Nat) (wf:s.wf) (h:Rd 1 s x is.length (is.map (S.int .i64))) (eQ:∀ c,own x=some c->c<s.size) (hl:is.length<=8000) :
 ∃ y t,R (d+1) 76 [Z x,Z .ay,I .i64 40] s=some (Z y,t)/\mQ s t y (fJ 0 0 (is.take 40)):=by
 obtain ⟨j,τ,lp,y,rfl,hF⟩:=aV (f:=tz (R d) 8192)
  (fun q v u=>∃ (k:Nat) (y:S) (T0:Int),q+k=(is.take 40).length/\v=[Z x,Z .ay,I .i64 40,Z y,I .i64 T0,I .i64 (k:Nat)]/\mQ s u y (fJ 0 0 (is.take k))/\T0=(fJ 0 0 (is.take k)).getLast?.elim 0 (·.t))
  (fun j u=>∃ y,j = .exit 0 [Z y]/\mQ s u y (fJ 0 0 (is.take 40))) (by
  rintro q v u ⟨k,y,T0,hq,rfl,hf,hT⟩
  rw [List.length_take] at hq
  have hu:=h.gr eQ hf.gr
  have lu:=hu.lens
  by_cases hk:k<is.length
  · by_cases S3:k<40
    · left
      obtain ⟨v,hv⟩:∃ v,is[k]? = some v:=⟨_,List.getElem?_eq_getElem hk⟩
      obtain ⟨P,ix,ld⟩:=hu.yJ (i:=((k:Nat):Int)) (j:=k) (v:=S.int .i64 v) rfl (by rw [List.getElem?_map,hv];rfl)
      have lh:is.take (k+1)=is.take k++[v]:=by rw [List.take_add_one,hv];rfl
      obtain ⟨t',h1,h2,h3,h4⟩:=wH (is.take k) 0 0 v
      rw [← hT] at h4
      rw [h4] at h1 h2 h3
      have eZ:(is.take k).length=k:=by rw [List.length_take];omega
      rw [eZ,Nat.zero_add] at h1
      rw [eZ] at h3
      have hm:=Nat.mod_lt (bP v) (show 0<40 by decide)
      have c1:aI .u64 (I .i64 v)=some (I .u64 (bP v:Nat)):=by rw [aY,sA]
      have r1:af .rem (I .u64 (bP v:Nat)) (I .u64 40)=some (I .u64 ((bP v%40:Nat))):=sy .u64 _ 40 (by decide)
      have c3:aI .i64 (I .u64 ((bP v%40:Nat):Int))=some (I .i64 ((bP v%40:Nat):Int)):=by rw [aY,rF _ (by omega)]
      have w1:IntKind.i64.wrap (T0+1)=T0+1:=aE _ (by omega) (by omega)
      have w2:IntKind.i64.wrap (T0+1+((bP v%40:Nat):Int))=T0+1+((bP v%40:Nat):Int):=aE _ (by omega) (by omega)
      have q1:af .add (I .i64 T0) (I .i64 1)=some (I .i64 (T0+1)):=by rw [dH,w1]
      have q2:af .add (I .i64 (T0+1)) (I .i64 ((bP v%40:Nat):Int))=some (I .i64 (T0+1+((bP v%40:Nat):Int))):=by rw [dH,w2]
      have w3:IntKind.i64.wrap ((k:Int)+1)=((k+1:Nat):Int):=by rw [aE _ (by omega) (by omega)];omega
      have c4:¬ ((k:Nat):Int)<0:=by omega
      have c5:((k:Nat):Int)<((is.length:Nat):Int):=by omega
      have c6:((k:Nat):Int)<40:=by omega
      obtain ⟨e,he⟩:∃ e:eU,e=⟨T0+1+((bP v%40:Nat):Int),(k:Int)⟩:=⟨_,rfl⟩
      rw [← he] at h1
      have ag:aU (aG [.int .i64 0,.int .i64 0] [(0,1,I .i64 (T0+1+((bP v%40:Nat):Int))),(1,1,I .i64 (k:Nat))])=some (AS e):=by rw [he];rfl
      obtain ⟨y',u2,u1,nw,ap,f2,z2,Pp,_,_⟩:=mQ.lit (e:=e) hf (by rw [iH,eZ];omega)
      rw [← h1,← lh] at f2
      refine ⟨[Z x,Z .ay,I .i64 40,Z y',I .i64 (T0+1+((bP v%40:Nat):Int)),I .i64 ((k+1:Nat):Int)],u2,q-1,?_,by omega,k+1,y',_,by rw [List.length_take];omega,rfl,f2,by rw [lh,h1,he];simp⟩
      unfold tz
      clear he h1 hT h2 h3 h4
      generalize T0+1+((bP v%40:Nat):Int)=T2 at *
      generalize T0+1=T1 at *
      generalize ((bP v%40:Nat):Int)=m1 at *
      generalize ((bP v:Nat):Int)=m0 at *
      generalize ((k+1:Nat):Int)=K1 at *
      generalize ((k:Nat):Int)=K0 at *
      generalize ((is.length:Nat):Int)=LL at *
      simp [lu,c5,c6,q1,ix,ld,c1,r1,c3,q2,c4,ag,nw,ap,w3]
    · right
      have hkk:k=40:=by omega
      have c5:((k:Nat):Int)<((is.length:Nat):Int):=by omega
      have c6:¬ ((k:Nat):Int)<40:=by omega
      subst hkk
      refine ⟨_,u,?_,(fun v h=>by cases h),y,rfl,hf⟩
      unfold tz
      generalize ((40:Nat):Int)=K0 at *
      generalize ((is.length:Nat):Int)=LL at *
      simp [lu,c5,c6]
  · right
    have hkk:k=is.length:=by omega
    have c5:¬ ((k:Nat):Int)<((is.length:Nat):Int):=by omega
    have h40:is.take 40=is.take k:=by rw [List.take_of_length_le (by omega),List.take_of_length_le (by omega)]
    rw [h40]
    refine ⟨_,u,?_,(fun v h=>by cases h),y,rfl,hf⟩
    unfold tz
    generalize ((k:Nat):Int)=K0 at *
    generalize ((is.length:Nat):Int)=LL at *
    simp [lu,c5])
  8192 (is.take 40).length _ s ⟨0,.ay,0,by omega,rfl,⟨Gr.refl wf,Ow.nil 2 s,fun c hc=>by cases hc⟩,rfl⟩ (by rw [List.length_take];omega)
 refine ⟨y,τ,?_,hF⟩
 rw [MX]
 unfold f76
 have e0:((0:Nat):Int)=0:=rfl
 rw [e0] at lp
 simp [lp]
end
theorem tc:∀ (l:List eU) (k:Nat) (a:eU) (t':Int),l[k]? = some a->(cells cS l).set (k*2) (.int .i64 t')=cells cS (l.set k ⟨t',a.v⟩)
 | [],k,a,t',h=>by simp at h
 | x::r,0,a,t',h=>by
   simp at h
   subst h
   rfl
 | x::r,k+1,a,t',h=>by
   have ih:=tc r k a t' (by simpa using h)
   rw [List.set_cons_succ,dJ,dJ,← ih,show (k+1)*2=k*2+1+1 by omega]
   rfl
theorem td:∀ (l:List eU) (k:Nat) (a:eU) (v':Int),l[k]? = some a->(cells cS l).set (k*2+1) (.int .i64 v')=cells cS (l.set k ⟨a.t,v'⟩)
 | [],k,a,t',h=>by simp at h
 | x::r,0,a,t',h=>by
   simp at h
   subst h
   rfl
 | x::r,k+1,a,t',h=>by
   have ih:=td r k a t' (by simpa using h)
   rw [List.set_cons_succ,dJ,dJ,← ih,show (k+1)*2+1=k*2+1+1+1 by omega]
   rfl
section
variable {s t u s0:St} {x y b lx bx:S} {l acc:List eU} {bs:Bs} {p:Nat} {r:Rr} {g:Sg} {is:List Int}
theorem take_set {α:Type} (l:List α) (n k:Nat) (v:α) (h:k<n):(l.set k v).take n=(l.take n).set k v:=by
 apply List.ext_getElem?
 intro j
 rw [List.getElem?_take,List.getElem?_set,List.getElem?_set,List.getElem?_take]
 by_cases hj:j<n
 · simp [hj,List.length_take]
   by_cases hk:k=j
   · subst hk
     by_cases hl:k<l.length
     · simp [hl];omega
     · simp [hl];omega
   · simp [hk]
 · have:k≠j:=by omega
   simp [hj,this]
theorem mQ.rO (h:mQ s u y l) {k:Nat} {a:eU} (hk:l[k]? = some a):∃ c p,av 2 (Z y) (I .i64 (k:Nat))=some (Z (.ptr c p))/\ab (Z (.ptr c p)) u.get=some (I .i64 a.t)/\ab (Z (.ptr c (p+1))) u.get=some (I .i64 a.v) ∧
 (∀ t',∃ u',aw 1 (Z (.ptr c p)) (I .i64 t') u=some (tt,u')/\mQ s u' y (l.set k ⟨t',a.v⟩)/\u'.size=u.size/\∀ b,own y≠some b->u'.get b=u.get b) ∧
 (∀ v',∃ u',aw 1 (Z (.ptr c (p+1))) (I .i64 v') u=some (tt,u')/\mQ s u' y (l.set k ⟨a.t,v'⟩)/\u'.size=u.size/\∀ b,own y≠some b->u'.get b=u.get b):=by
 have eZ:=(List.getElem?_eq_some_iff.1 hk).1
 rcases h.ow.ow with ⟨rfl,h0⟩ | ⟨c,rows,rfl,h0,_⟩ | ⟨c,rows,cap,rfl,hc,hg,hle,lh⟩
 · omega
 · omega
 · have ix:av 2 (Z (.sl c 0 l.length cap)) (I .i64 (k:Nat))=some (Z (.ptr c (0+k*2))):=db rfl eZ
   rw [Nat.zero_add] at ix
   have jy:=h.gr.wf.lt hg
   have zP:=h.new c rfl
   have g0:rows[k*2]? = some (.int .i64 a.t):=by
    have:=gf (f:=0) pG hk (by omega)
    rw [← lh,List.getElem?_take_of_lt (by omega)] at this
    exact this
   have g1:rows[k*2+1]? = some (.int .i64 a.v):=by
    have:=gf (f:=1) pG hk (by omega)
    rw [← lh,List.getElem?_take_of_lt (by omega)] at this
    exact this
   have mk:∀ (j:Nat) (v:S) (l':List eU),j<l.length*2->l'.length=l.length->(cells cS l).set j v=cells cS l'->mQ s (u.set c (.cells true (rows.set j v))) (.sl c 0 l.length cap) l':=by
    intro j v l' hj sc gP
    refine ⟨⟨St.wf_set h.gr.wf jy _,by simpa using h.gr.2.1,fun b hb=>by rw [St.aj _ _ (by omega)];exact h.gr.2.2 b hb⟩,⟨dS pG _,.inr (.inr ⟨c,_,cap,by rw [sc],?_,St.ar _ _ _,?_,?_⟩)⟩,fun b hb=>by cases hb;simpa using zP⟩
    · rw [sc];exact hc
    · rw [List.length_set,sc];exact hle
    · rw [sc,take_set _ _ _ _ hj,lh,gP]
   refine ⟨c,k*2,ix,ai hg g0,ai hg g1,fun t'=>⟨_,aW hg (by omega),mk _ _ _ (by omega) (by simp) (tc l k a t' hk),by simp,fun b hb=>St.aj _ _ fun e=>hb (by rw [e];rfl)⟩,
    fun v'=>⟨_,aW hg (by omega),mk _ _ _ (by omega) (by simp) (td l k a v' hk),by simp,fun b hb=>St.aj _ _ fun e=>hb (by rw [e];rfl)⟩⟩
set_option maxHeartbeats 2000000 in
theorem E9 (d:Nat) {A T8:T} {f:Int} (h:mQ s u y l) (Uc:0<=f) (Rq:f<=1000000) (ht:∀ a∈l,0<=a.t/\a.t<=100000/\0<=a.v/\a.v<1000000000) (hl:l.length<=1000) :
 ∃ u',loops (tw (R d) 8192) 8192 [A,I .i64 f,T8,Z y,I .i64 0] u=some (.exit 0 [A,I .i64 f,T8,Z y],u')/\mQ s u' y (l.map (gI f))/\u'.size=u.size/\∀ b,own y≠some b->u'.get b=u.get b:=by
 obtain ⟨j,τ,lp,rfl,h1,h2,h3⟩:=aV (f:=tw (R d) 8192)
  (fun q v w=>∃ (k:Nat),q+k=l.length/\v=[A,I .i64 f,T8,Z y,I .i64 (k:Nat)]/\mQ s w y ((l.take k).map (gI f)++l.drop k)/\w.size=u.size/\∀ b,own y≠some b->w.get b=u.get b)
  (fun j w=>j = .exit 0 [A,I .i64 f,T8,Z y]/\mQ s w y (l.map (gI f))/\w.size=u.size/\∀ b,own y≠some b->w.get b=u.get b) (by
  rintro q v w ⟨k,hq,rfl,hw,hz,hkp⟩
  have hlen:((l.take k).map (gI f)++l.drop k).length=l.length:=by simp;omega
  have lw:=hw.rd.lens
  rw [hlen] at lw
  by_cases hk:k<l.length
  · left
    obtain ⟨a,ha⟩:∃ a,l[k]? = some a:=⟨_,List.getElem?_eq_getElem hk⟩
    have hkt:(l.take k).length=k:=by rw [List.length_take];omega
    have m6:l.drop k=a::l.drop (k+1):=by
     rw [List.drop_eq_getElem_cons hk]
     rw [List.getElem?_eq_getElem hk] at ha
     rw [Option.some.inj ha]
    have Ds:((l.take k).map (gI f)++l.drop k)[k]? = some a:=by
     rw [m6,List.getElem?_append_right (by simp;omega),show k-((l.take k).map (gI f)).length=0 by simp;omega]
     rfl
    obtain ⟨t0,t1,v0,v1⟩:=ht a (List.mem_of_getElem? ha)
    obtain ⟨c,p,ix,lt,lv,st0,_⟩:=hw.rO Ds
    have w1:IntKind.i64.wrap (a.t+f)=a.t+f:=aE _ (by omega) (by omega)
    obtain ⟨w2,e2,IK,z2,k2⟩:=st0 (a.t+f)
    have ha2:(((l.take k).map (gI f)++l.drop k).set k ⟨a.t+f,a.v⟩)[k]? = some ⟨a.t+f,a.v⟩:=by
     rw [List.getElem?_set]
     simp [hlen]
     omega
    obtain ⟨c',p',tS,_,R3,_,yB⟩:=IK.rO ha2
    have SX:c'=c/\p'=p:=by
     rw [ix] at tS
     injection tS with h;injection h with h;injection h with h;injection h with h1 h2
     exact ⟨h1.symm,h2.symm⟩
    obtain ⟨rfl,rfl⟩:=SX
    have r1:af .rem (I .i64 a.v) (I .i64 1000000000)=some (I .i64 a.v):=by
     rw [sx _ _ _ (by decide),Int.tmod_eq_emod_of_nonneg v0,Int.emod_eq_of_lt v0 v1]
    obtain ⟨w3,e3,hw3,z3,k3⟩:=yB a.v
    have gP:(((l.take k).map (gI f)++l.drop k).set k ⟨a.t+f,a.v⟩).set k ⟨a.t+f,a.v⟩=(l.take (k+1)).map (gI f)++l.drop (k+1):=by
     rw [List.set_set,m6,List.set_append_right _ _ (by simp;omega)]
     have:k-((l.take k).map (gI f)).length=0:=by simp;omega
     rw [this,List.set_cons_zero,List.take_add_one,ha]
     simp [gI]
    have c0:((k:Nat):Int)<((l.length:Nat):Int):=by omega
    have w4:IntKind.i64.wrap ((k:Int)+1)=((k+1:Nat):Int):=by rw [aE _ (by omega) (by omega)];omega
    refine ⟨[A,I .i64 f,T8,Z y,I .i64 ((k+1:Nat):Int)],w3,q-1,?_,by omega,k+1,by omega,rfl,by rw [← gP];exact hw3,by omega,fun b hb=>by rw [k3 b hb,k2 b hb,hkp b hb]⟩
    unfold tw
    generalize ((k+1:Nat):Int)=K1 at *
    generalize ((k:Nat):Int)=K0 at *
    generalize ((l.length:Nat):Int)=LL at *
    simp [lw,c0,ix,lt,w1,e2,R3,r1,e3,w4]
  · right
    have hkk:k=l.length:=by omega
    subst hkk
    rw [List.take_length,List.drop_length,List.append_nil] at hw
    refine ⟨_,w,?_,(fun v h=>by cases h),rfl,hw,hz,hkp⟩
    unfold tw
    generalize ((l.length:Nat):Int)=LL at *
    simp [lw])
  8192 l.length _ u ⟨0,by omega,rfl,by simpa using h,rfl,fun _ _=>rfl⟩ (by omega)
 exact ⟨τ,lp,h1,h2,h3⟩
set_option maxHeartbeats 2000000 in
theorem Jm (d:Nat) {id f:Int} (wf:s.wf) (h:Rd 1 s x is.length (is.map (S.int .i64))) (eQ:∀ c,own x=some c->c<s.size) (hl:is.length<=1000) (Uc:0<=f) (Rq:f<=1000000) :
 ∃ y t,R (d+2) 21 [I .i64 id,I .i64 f,Z x,Z .ay] s=some (AG (gY id f is) y,t)/\mQ s t y (dD id f is):=by
 obtain ⟨s1,cZ,g1,b1,z1⟩:=Lc wf
 have L2:=Fr.lit 1 g1.wf (n:=1) (vs:=[.int .i64 id]) rfl
 obtain ⟨s2,lS⟩:∃ s2,s2=s1.push (.cells true [.int .i64 id]):=⟨_,rfl⟩
 rw [← lS] at L2
 have wz:aL s1 (aS 1 (aG [.int .i64 0] [(0,1,I .i64 id)]))=some (Z (.sl s1.size 0 1 (.known 1)),s2):=by rw [lS];simp [aL,aS,aG,V.cells,aO]
 have hx2:=h.gr eQ (g1.trans L2.gr)
 obtain ⟨y3,s3,e3,f3,z3,k3⟩:=L2.append (by_:=8) (by omega) hx2.src (by simp) (by omega)
 have T9:[S.int .i64 id]++is.map (S.int .i64)=(id::is).map (S.int .i64):=rfl
 rw [T9,show 1+is.length=(id::is).length by simp;omega] at f3
 obtain ⟨y4,s4,e4,f4⟩:=J9 d f3.gr.wf f3.rd (fun c hc=>(f3.new c hc).2) (by simp;omega)
 have EU:=qp ((id::is).take 40) 0 0
 have aat:((id::is).take 40).length<=40:=by rw [List.length_take];omega
 obtain ⟨s5,lp,f5,z5,k5⟩:=E9 (A:=I .i64 id) (T8:=Z (.ptr s.size 0)) (d+1) f4 Uc Rq (fun a ha=>by have:=EU a ha;omega) (by rw [iH];omega)
 have YW:=f4.gr.2.1
 have UW:=f3.gr.2.1
 have t5:s5.get s.size=some (.cells true [.int .i64 0,.int .i64 0,.int .i64 0,.int .i64 0,.ay,.ay]):=by
  rw [k5 _ (fun e=>by have:=(f4.new _ e).1;omega),f4.gr.2.2 _ (by omega),f3.gr.2.2 _ (by omega)];exact b1
 have hmk:(fJ 0 0 ((id::is).take 40)).map (gI f)=dD id f is:=rfl
 rw [hmk] at f5
 have hpos:0<(dD id f is).length:=by simp [dD,iH]
 have hlen:(dD id f is).length<=40:=by simp [dD,iH];omega
 obtain ⟨z,hz⟩:∃ z,(dD id f is)[(dD id f is).length-1]? = some z:=⟨_,List.getElem?_eq_getElem (by omega)⟩
 have hzl:(dD id f is).getLast?.elim 0 (·.t)=z.t:=by rw [List.getLast?_eq_getElem?,hz];rfl
 have hok:=DJ (id:=id) (steps:=is) Uc Rq
 have yQ:0<=z.t/\z.t<=2000000:=by
  obtain ⟨b,hb,rfl⟩:=List.mem_map.1 (List.mem_of_getElem? hz)
  have:=EU b hb
  simp only [gI]
  omega
 obtain ⟨cz,pz,iz,_,lz,_⟩:=pn.Eo f5.rd (n:=(((dD id f is).length:Nat):Int)-1) (j:=(dD id f is).length-1) (by omega) hz
 have ll:=f5.rd.lens
 have w1:IntKind.i64.wrap ((((dD id f is).length:Nat):Int)-1)=(((dD id f is).length:Nat):Int)-1:=aE _ (by omega) (by omega)
 have c1:aI .u64 (I .i64 id)=some (I .u64 (bP id:Nat)):=by rw [aY,sA]
 have m1:=Nat.mod_lt (bP id) (show 0<1000 by decide)
 have m2:=Nat.mod_lt (bP id) (show 0<7 by decide)
 have r1:af .rem (I .u64 (bP id:Nat)) (I .u64 1000)=some (I .u64 ((bP id%1000:Nat))):=sy .u64 _ 1000 (by decide)
 have r2:af .rem (I .u64 (bP id:Nat)) (I .u64 7)=some (I .u64 ((bP id%7:Nat))):=sy .u64 _ 7 (by decide)
 have c2:aI .i64 (I .u64 ((bP id%1000:Nat):Int))=some (I .i64 ((bP id%1000:Nat):Int)):=by rw [aY,rF _ (by omega)]
 have c3:aI .i64 (I .u64 ((bP id%7:Nat):Int))=some (I .i64 ((bP id%7:Nat):Int)):=by rw [aY,rF _ (by omega)]
 have a1:af .add (I .i64 1) (I .i64 ((bP id%1000:Nat):Int))=some (I .i64 (1+((bP id%1000:Nat):Int))):=by rw [dH,aE _ (by omega) (by omega)]
 have a2:af .add (I .i64 z.t) (I .i64 1)=some (I .i64 (z.t+1)):=by rw [dH,aE _ (by omega) (by omega)]
 have a3:af .add (I .i64 (z.t+1)) (I .i64 ((bP id%7:Nat):Int))=some (I .i64 (z.t+1+((bP id%7:Nat):Int))):=by rw [dH,aE _ (by omega) (by omega)]
 have ag:aU (aG [.int .i64 0,.int .i64 0,.int .i64 0,.int .i64 0,.ay,.ay] [(0,1,I .i64 (1+((bP id%1000:Nat):Int))),(2,1,I .i64 f),(3,1,I .i64 (z.t+1+((bP id%7:Nat):Int))),(4,1,Z y4)])=some (AG (gY id f is) y4):=by
  have:gY id f is=⟨1+((bP id%1000:Nat):Int),f,z.t+1+((bP id%7:Nat):Int),dD id f is⟩:=by unfold gY;rw [hzl]
  rw [this];rfl
 obtain ⟨s6,Dx⟩:∃ s6,s6=s5.set s.size (.cells true (cG (gY id f is) y4)):=⟨_,rfl⟩
 have AO:aw 6 (Z (.ptr s.size 0)) (AG (gY id f is) y4) s5=some (tt,s6):=by rw [Dx];exact mN t5 rfl
 have l6:=nB (m:=s6.get) (by rw [Dx];exact St.ar _ _ _:s6.get s.size=some (.cells true (cG (gY id f is) y4)))
 refine ⟨y4,s6,?_,⟨?_,f5.ow.keep fun c hc => ?_,fun c hc => ?_⟩⟩
 · rw [Mq]
   unfold f21
   clear hzl hok hz hmk
   generalize R (d+1)=rr at *
   generalize s.size=ss at *
   generalize 1+((bP id%1000:Nat):Int)=A1 at *
   generalize z.t+1+((bP id%7:Nat):Int)=A2 at *
   generalize z.t+1=A3 at *
   generalize ((bP id%1000:Nat):Int)=A4 at *
   generalize ((bP id%7:Nat):Int)=A5 at *
   generalize ((bP id:Nat):Int)=A6 at *
   generalize (((dD id f is).length:Nat):Int)=LL at *
   simp [cZ,wz,e3,e4,lp,c1,r1,c2,a1,ll,w1,iz,lz,a2,r2,c3,a3,ag,AO,l6,rC,aQ,bK]
 · have g5:=f5.gr
   rw [Dx]
   exact ⟨St.wf_set g5.wf (g5.wf.lt t5) _,by simp;omega,fun c hc=>by rw [St.aj _ _ (by omega),k5 c (fun e=>by have:=(f4.new _ e).1;omega),f4.gr.2.2 c (by omega),f3.gr.2.2 c (by omega),g1.2.2 c hc]⟩
 · have:=(f4.new c hc).1
   rw [Dx,St.aj _ _ (by omega)]
 · have:=f4.new c hc
   have:s6.size=s5.size:=by rw [Dx];simp
   omega
end
def Xb (k:Nat):Nat:=(cJ (gY (k:Int) (k:Int) [3,4])).length+(aZ (bj (ic (gY (k:Int) (k:Int) [3,4])))).length
set_option maxRecDepth 100000 in
theorem Ig:Nat.ble 2000 (((List.range 61).map Xb).sum)=true:=by kernel_rfl
theorem pR (bs:Bs) (vs:List FV):(ei bs vs).length<=vs.length+1:=by
 unfold ei
 split
 · simp [jD]
 · simp
section
variable {ρ ρ':Nat->Nat} {s t u:St} {D:mS} {room:Int} {fs fs':List Fl} {l es:List bA} {q:FoS} {sure:Nat} {i m:Nat} {e:bA} {y:S} {bs:Bs} {kl:List Int} {vs:List FV}
theorem GV (wf:s.wf) (l:Bs):∃ t,aL s (qi (Z (.str l)))=some (Z (.sl s.size 0 l.length (.grown 1)),t)/\Gr s t/\RB t (.sl s.size 0 l.length (.grown 1)) l/\t.size=s.size+1:=by
 refine ⟨s.push (.cells false (U l)),rfl,Gr.push wf _,⟨by simp,?_,rfl⟩,by simp⟩
 exact .inr ⟨s.size,0,_,false,U l,rfl,St.aq _ _,by simp,by rw [List.drop_zero];exact List.take_of_length_le (by simp)⟩
theorem CO (d:Nat) (h:aX ρ s D room fs l q sure) (hq:q.l.length<=8000):∃ y t,R (d+3) 27 [Z (.ptr D.p 0)] s=some (Z y,t)/\Fr 5 s t y q.l.length (cells cI q.l):=by
 have np:fT .p (Z (.ptr D.p 0)) (Z .bL)=some (B false):=rfl
 have q3:ab (Z (.ptr D.p 3)) s.get=some (Z (.ptr D.b 0)):=ai h.st rfl
 obtain ⟨y,t,e1,f1⟩:=mA d h.hf hq
 refine ⟨y,t,?_,f1⟩
 rw [MA]
 unfold f27
 generalize R (d+2)=rr at *
 simp [np,q3,e1]
structure To (s0:St) (n:Nat) (D:mS) (u:St) (k:Nat) (ρ:Nat->Nat) (E:mS) (fs:List Fl) (l:List bA) (q:FoS):Prop where
 st:aX ρ u E n fs l q 0
 iv:fB (cu fs) l q 0
 ll:l.length=k
 ql:q.l.length=k
 fl:fs.length<=k+1
 tt:jC (cu fs)=((List.range k).map Xb).sum
 le:jC (cu fs)<=n
 ev:∀ a∈q.df,a<=(k:Int)
 bl:E.p=D.p/\E.i=D.i/\E.m=D.m
theorem To.lt {s0:St} {n k:Nat} {E:mS} (h:To s0 n D u k ρ E fs l q) (hn:n<2000):k<61:=by
 apply Nat.lt_of_not_le
 intro hk
 have h1:=Nat.le_of_ble_eq_true Ig
 have h2:((List.range 61).map Xb).sum<=((List.range k).map Xb).sum:=by
  obtain ⟨j,rfl⟩:∃ j,k=61+j:=⟨k-61,by omega⟩
  rw [List.range_add,List.map_append,List.sum_append]
  omega
 have h3:=h.tt
 have h4:=h.le
 omega
end
structure Op where
 k:Int
 i:Int
 st:List Int
def Gx (s:St) (o:Op) (r:List S):Prop:=r.length=14/\r[0]? = some (.int .i64 o.k)/\r[1]? = some (.int .i64 o.i)/\∃ y,r[4]? = some y/\Rd 1 s y o.st.length (o.st.map (S.int .i64))/\∀ c,own y=some c->c<s.size
def oU:bA:=⟨4,0,0,0,0,0,0,[115,101,97,108,32,53]⟩
theorem Kg:cd oU=true:=by kernel_rfl
theorem OM:pb oU:=⟨Int.le_refl _,(show (0:Int)<4294967296 by decide)⟩
theorem wN {q:FoS} (h:q.w=0):bh q oU=0:=by
 unfold bh
 rw [if_pos Kg]
 simp [oU,h]
section
variable {ρ ρ':Nat->Nat} {s t u s0:St} {D E:mS} {room:Int} {fs fs':List Fl} {l es:List bA} {q:FoS} {sure:Nat} {i m n k:Nat} {e:bA} {x xa y z:S} {bs:Bs} {kl:List Int} {vs:List FV} {g:Sg} {o:Op} {ops:List Op} {rows:List (List S)}
theorem Py (ha:Rd 14 s xa rows.length rows.flatten) (hr:aT (Gx s) ops rows) {k:Nat} {o:Op} (ho:ops[k]? = some o) (hu:∀ c,c<s.size->u.get c=s.get c) (hx:∀ c,own xa=some c->c<s.size) :
 ∃ c p y,av 14 (Z xa) (I .i64 k)=some (Z (.ptr c p))/\ab (Z (.ptr c p)) u.get=some (I .i64 o.k)/\ab (Z (.ptr c (p+1))) u.get=some (I .i64 o.i)/\ab (Z (.ptr c (p+4))) u.get=some (Z y)/\Rd 1 u y o.st.length (o.st.map (S.int .i64))/\(∀ c,own y=some c->c<s.size):=by
 obtain ⟨r,Pk,Nj,h0,h1,y,h4,hy,hoy⟩:=bn hr _ _ ho
 have hk:=(List.getElem?_eq_some_iff.1 Pk).1
 have hl:∀ r∈rows,r.length=14:=by
  intro r hr'
  obtain ⟨j,hj⟩:=List.getElem?_of_mem hr'
  have hjl:=(List.getElem?_eq_some_iff.1 hj).1
  have:j<ops.length:=by rw [aA hr];exact hjl
  obtain ⟨r',e1,e2,_⟩:=bn hr j _ (List.getElem?_eq_getElem this)
  rw [hj] at e1
  cases e1
  exact e2
 have Ds:Rd 14 u xa rows.length rows.flatten:=ha.keep fun c hc=>hu c (hx c hc)
 obtain ⟨c,p,e1,e2,_⟩:=Ds.at (i:=(k:Int)) (j:=k) rfl hk
 refine ⟨c,p,y,e1,?_,?_,?_,hy.keep fun c hc=>hu c (hoy c hc),hoy⟩
 · have:=e2 0 (.int .i64 o.k) (by omega) (by rw [ur hl k 0 _ Pk (by omega)];exact h0)
   simpa using this
 · exact e2 1 (.int .i64 o.i) (by omega) (by rw [ur hl k 1 _ Pk (by omega)];exact h1)
 · exact e2 4 y (by omega) (by rw [ur hl k 4 _ Pk (by omega)];exact h4)
theorem inst_no (h:fB vs l q sure) (hq:FZ q) (hk:g.i=(k:Int)) (jb:1<=k) (hk2:k<=64) (ha:bh q (ic g)=0):ik (bw k) vs=false:=by
 have hne:∀ a∈q.l,a.i≠g.i:=fun a jP e=>by
  have h1:=hq.ev a jP
  unfold bh at ha
  rw [if_pos (dN ha),if_pos ⟨rfl,by show g.i∈q.df;rw [← e];exact h1⟩] at ha
  cases ha
 exact fG.2 fun v hv e=>by
  obtain ⟨a,jP,hn⟩:=h.own v hv (by rw [e];exact dz k)
  have hr:=jU (h.Gk a jP)
  have:=mE ⟨jb,hk2⟩ (j:=a.i.toNat) ⟨by omega,by omega⟩ (by rw [← e,hn])
  exact hne a jP (by omega)
inductive PI (ρ:Nat->Nat) (D:mS) (room:Int) (fs:List Fl) (l:List bA) (q:FoS) (sure:Nat) (e:bA) (s t:St):Int->Prop
 | no {ρ' c}:aX ρ' t D room fs l q sure->K7 ρ ρ' s t->c≠0->PI ρ D room fs l q sure e s t c
 | ok {ρ' D' fs'}:aX ρ' t D' room fs' (l++[e]) (cN q e) sure->cu fs'=ei (aZ (bj e)) (cu fs)->K7 ρ ρ' s t->(D'.p=D.p/\D'.i=D.i/\D'.m=D.m)->PI ρ D room fs l q sure e s t 0
theorem Ov (d:Nat) (h:aX ρ s D room fs l q sure) (oB:iJ fs l sure) (hn:nN fs) (hsz:(aF l).length<=40000) (he:bh q e=0) (hw:pb e) (hl:l.length<2000) (jb:e.k≠1) (hk2:e.k≠2) :
 ∃ t c,R (d+14) 18 [Z (.ptr D.p 0),AE e] s=some (I .i64 c,t)/\PI ρ D room fs l q sure e s t c:=by
 by_cases hf:(jC (cu fs):Int)+(aZ (bj e)).length<=room
 · obtain ⟨Bc,D1,fs1,t,e1,h1,lg1,gw1,z1,hD,W8,k1⟩:=JU d h oB hn (by rw [kJ];exact hf) hsz he hw hl jb hk2
   exact ⟨t,0,e1,.ok h1 (qv h.nd gw1) ⟨z1,W8,k1⟩ hD⟩
 · obtain ⟨s1,hs1⟩:∃ s1,s1=s.push (.cells true (cE e)):=⟨_,rfl⟩
   have cZ:aL s (cf (AE e))=some (Z (.ptr s.size 0),s1):=by rw [hs1];rfl
   have g1:Gr s s1:=by rw [hs1];exact Gr.push h.nK _
   have b1:s1.get s.size=some (.cells true (cE e)):=by rw [hs1];exact St.aq _ _
   have l1:=c7 (g:=s1.get) b1
   have h1:=h.gr g1
   obtain ⟨s2,e2,g2⟩:=nT (d+3) h1 hl e
   rw [he] at e2
   have h2:=h1.gr g2
   have b2:=g2.get b1 g1.wf
   have l2:=c7 (g:=s2.get) b2
   have k2:ab (Z (.ptr s.size 0)) s2.get=some (I .i64 e.k):=ai b2 rfl
   obtain ⟨t,e3,g3⟩:=sR d h2 hn (by omega) (dN he) hw
   have np:fT .p (Z (.ptr D.p 0)) (Z .bL)=some (B false):=rfl
   have g03:=(g1.trans g2).trans g3
   refine ⟨t,8,?_,.no (h.gr g03) (Wm g03) (by decide)⟩
   rw [Db]
   unfold f18
   simp only [Nat.add_assoc,Nat.reduceAdd] at e2
   generalize R (d+13)=rr at *
   simp [cZ,np,l1,e2,k2,jb,hk2,l2,e3]
structure iK (s0:St) (D:mS) (u:St) (k:Nat) (ρ:Nat->Nat) (E:mS) (fs:List Fl) (l:List bA) (q:FoS) (sure:Nat):Prop where
 st:aX ρ u E 100000 fs l q sure
 iv:fB (cu fs) l q sure
 ll:l.length<=k
 lx:∀ e∈l,e.x.length<=10
 fl:fs.length<=2*k
 sz:s0.size<=u.size
 ro:∀ c,c<s0.size->ρ c=9
 kp:∀ c,c<s0.size->u.get c=s0.get c
 bl:E.p=D.p/\E.i=D.i/\E.m=D.m
theorem iK.move {k':Nat} {E':mS} {l':List bA} {q':FoS} {sure':Nat} (h:iK s0 D u k ρ E fs l q sure) (st:aX ρ' t E' 100000 fs' l' q' sure') (iv:fB (cu fs') l' q' sure') (k7:K7 ρ ρ' u t) (ll:l'.length<=k') (lx:∀ e∈l',e.x.length<=10) (fl:fs'.length<=2*k') (bl:E'.p=E.p/\E'.i=E.i/\E'.m=E.m):iK s0 D t k' ρ' E' fs' l' q' sure':=by
 obtain ⟨_,_,_,_,_,sz,ro,kp,⟨b1,b2,b3⟩⟩:=h
 exact ⟨st,iv,ll,lx,fl,by have:=k7.sz;omega,fun c hc=>by rw [k7.ro c (by omega)];exact ro c hc,fun c hc=>by rw [k7.kp c (by omega) (by rw [ro c hc];decide)];exact kp c hc,⟨by rw [bl.1,b1],by rw [bl.2.1,b2],by rw [bl.2.2,b3]⟩⟩
theorem iK.nice (h:iK s0 D u k ρ E fs l q sure) (hk:k<=40):nN fs:=⟨fun f hf=>by
 rcases h.iv.nm (vw f) (List.mem_map_of_mem hf) with e | ⟨k,_,_,e⟩
 · rw [show f.nm=dL from e];decide
 · rw [show f.nm=bw k from e];have:=iF (k:=k);omega,by have:=h.fl;omega⟩
theorem x5 (h:∀ e∈l,e.x.length<=10) (he:e.x.length<=10):∀ a∈l++[e],a.x.length<=10:=fun a ha=>by
 rcases List.mem_append.1 ha with ha | ha
 · exact h a ha
 · rw [List.mem_singleton] at ha;rw [ha];exact he
theorem J7 (n:Bs) (vs:List FV):(qn n vs).length<=vs.length:=List.length_filter_le _ _
theorem wS (n:Bs) (vs:List FV):(fN n vs).length=vs.length:=by simp [fN,jD]
set_option maxHeartbeats 4000000 in
theorem OC (d:Nat) (h:iK s0 D u k ρ E fs l q sure) (ha:Rd 14 s0 xa rows.length rows.flatten) (hr:aT (Gx s0) ops rows) (Td:∀ c,own xa=some c->c<s0.size) (ho:ops[k]? = some o) (hk:k<=30) (h20:o.st.length<=20) {KP DD:T} :
 ∃ u' ρ' E' fs' l' q' sure',lI (R (d+15)) 8192 [Z xa,KP,DD,Z (.ptr D.p 0),I .i64 (k:Nat)] u=some (.normal [Z xa,KP,DD,Z (.ptr D.p 0),I .i64 ((k+1:Nat):Int)],u')/\iK s0 D u' (k+1) ρ' E' fs' l' q' sure':=by
 have Dw:=h.nice (by omega)
 have hH:=h
 obtain ⟨hst,Ga,eo,Ix,hfl,hsz,hro,hkp,⟨Wo,hbi,O8⟩⟩:=h
 have O9:=ig _ Ix
 have oB:=mD.2 Ga.lg
 obtain ⟨c,p,y,ix,qN,lW,Ji,ry,oy⟩:=Py ha hr ho hkp Td
 have lx:=ha.lens
 have hkr:k<rows.length:=by rw [← aA hr];exact (List.getElem?_eq_some_iff.1 ho).1
 have c0:((k:Nat):Int)<((rows.length:Nat):Int):=by omega
 have ly:=ry.lens
 have SG:¬ (20:Int)<((o.st.length:Nat):Int):=by omega
 have c1:aI .u64 (I .i64 o.i)=some (I .u64 (bP o.i:Nat)):=by rw [aY,sA]
 have hM:=Nat.mod_lt (bP o.i) (show 0<12 by decide)
 have r1:af .rem (I .u64 (bP o.i:Nat)) (I .u64 12)=some (I .u64 ((bP o.i%12:Nat))):=sy .u64 _ 12 (by decide)
 have c3:aI .i64 (I .u64 ((bP o.i%12:Nat):Int))=some (I .i64 ((bP o.i%12:Nat):Int)):=by rw [aY,rF _ (by omega)]
 obtain ⟨J,hJ⟩:∃ J,J=bP o.i%12:=⟨_,rfl⟩
 rw [← hJ] at hM r1 c3
 obtain ⟨m,hm⟩:∃ m,af .and (I .i64 o.k) (I .i64 7)=some (I .i64 m):=⟨_,rfl⟩
 have w1:IntKind.i64.wrap ((k:Int)+1)=((k+1:Nat):Int):=by rw [aE _ (by omega) (by omega)];omega
 by_cases m3:m=3
 · subst m3
   obtain ⟨t,cc,e1,H1⟩:=G5 (k:=J) d hst Ga Dw (by omega) (by omega)
   rw [Wo] at e1
   have fin:∃ ρ' E' fs' l' q' sure',iK s0 D t (k+1) ρ' E' fs' l' q' sure':=by
    cases H1 with
    | no H K _=>exact ⟨_,_,_,_,_,_,hH.move H Ga K (by omega) Ix (by omega) ⟨rfl,rfl,rfl⟩⟩
    | ok H V K hD hasks hJ1 hJ2 =>
      have Iv:=Ga.drop (k:=J) (e:=fY J) hst.ok.2.1 rfl rfl rfl hasks
      rw [← V] at Iv
      refine ⟨_,_,_,_,_,_,hH.move H Iv K (by simp;omega) (x5 Ix (by simp [fY])) ?_ hD⟩
      have h1:=congrArg List.length V
      rw [dm] at h1
      have h2:=J7 (bw J) (fN dL (ei (aZ (bj (fY J))) (cu fs)))
      rw [wS] at h2
      have h3:=pR (aZ (bj (fY J))) (cu fs)
      rw [dm] at h3
      omega
   obtain ⟨ρ',E',fs',l',q',sure',hF⟩:=fin
   refine ⟨t,ρ',E',fs',l',q',sure',?_,hF⟩
   unfold lI
   clear hF H1 hJ hM
   generalize R (d+15)=rr at *
   generalize ((k+1:Nat):Int)=K1 at *
   generalize ((k:Nat):Int)=K0 at *
   generalize ((J:Nat):Int)=JJ at *
   generalize ((rows.length:Nat):Int)=LL at *
   generalize ((o.st.length:Nat):Int)=SL at *
   generalize ((bP o.i:Nat):Int)=RK at *
   simp [lx,c0,ix,Ji,ly,SG,lW,c1,r1,c3,qN,hm,e1,w1]
 by_cases m4:m=4
 · subst m4
   obtain ⟨t,cc,e1,H1⟩:=Ov (d+1) hst oB Dw (by omega) (wN Ga.w0) OM (by omega) (show (4:Int)≠1 by decide) (show (4:Int)≠2 by decide)
   rw [Wo] at e1
   have ag:aU (aG [.int .i64 0,.int .i64 0,.int .i64 0,.int .i64 0,.int .i64 0,.int .i64 0,.int .u32 0,.str []] [(0,1,(I .i64 4)),(7,1,(Z (.str [115,101,97,108,32,53])))])=some (AE oU):=rfl
   have fin:∃ ρ' E' fs' l' q' sure',iK s0 D t (k+1) ρ' E' fs' l' q' sure':=by
    cases H1 with
    | no H K _=>exact ⟨_,_,_,_,_,_,hH.move H Ga K (by omega) Ix (by omega) ⟨rfl,rfl,rfl⟩⟩
    | ok H V K hD =>
      have Iv:=Ga.put (e:=oU) (show (4:Int)≠1 by decide) (show (4:Int)≠2 by decide) rfl (wN Ga.w0)
      rw [← V] at Iv
      refine ⟨_,_,_,_,_,_,hH.move H Iv K (by simp;omega) (x5 Ix (by simp [oU])) ?_ hD⟩
      have h1:=congrArg List.length V
      rw [dm] at h1
      have h3:=pR (aZ (bj oU)) (cu fs)
      rw [dm] at h3
      omega
   obtain ⟨ρ',E',fs',l',q',sure',hF⟩:=fin
   refine ⟨t,ρ',E',fs',l',q',sure',?_,hF⟩
   unfold lI
   clear hF H1 hJ hM
   simp only [Nat.add_assoc,Nat.reduceAdd] at e1
   generalize R (d+15)=rr at *
   generalize ((k+1:Nat):Int)=K1 at *
   generalize ((k:Nat):Int)=K0 at *
   generalize ((J:Nat):Int)=JJ at *
   generalize ((rows.length:Nat):Int)=LL at *
   generalize ((o.st.length:Nat):Int)=SL at *
   generalize ((bP o.i:Nat):Int)=RK at *
   generalize oU=SE at *
   simp [lx,c0,ix,Ji,ly,SG,lW,c1,r1,c3,qN,hm,ag,e1,w1]
 by_cases m5:m=5
 · subst m5
   obtain ⟨KC,fs4,s4,e1,h4,lg4,sy4,z4,ra4,k4⟩:=AY (d+11) hst oB
   rw [Wo] at e1
   have v4:=uG hst.nd sy4
   have iv4:=Ga.sync
   rw [← v4] at iv4
   have Uk:=congrArg List.length v4
   rw [dm,wS,dm] at Uk
   have hF:=hH.move (k':=k+1) h4 iv4 ⟨z4,ra4,k4⟩ (by omega) Ix (by omega) ⟨rfl,rfl,rfl⟩
   refine ⟨s4,_,_,_,_,_,_,?_,hF⟩
   unfold lI
   clear hF hJ hM
   simp only [Nat.add_assoc,Nat.reduceAdd] at e1
   generalize R (d+15)=rr at *
   generalize ((k+1:Nat):Int)=K1 at *
   generalize ((k:Nat):Int)=K0 at *
   generalize ((J:Nat):Int)=JJ at *
   generalize ((rows.length:Nat):Int)=LL at *
   generalize ((o.st.length:Nat):Int)=SL at *
   generalize ((bP o.i:Nat):Int)=RK at *
   simp [lx,c0,ix,Ji,ly,SG,lW,c1,r1,c3,qN,hm,e1,w1]
 obtain ⟨g,hg⟩:∃ g,g=gY (J:Int) (k:Int) o.st:=⟨_,rfl⟩
 have hok:j4 g:=by rw [hg];exact DJ (by omega) (by omega)
 have Iu:g.i=((J+1:Nat):Int):=by
  rw [hg]
  show 1+((bP (J:Int)%1000:Nat):Int)=_
  have:bP (J:Int)=J:=by
   have h1:=sA (J:Int)
   rw [wrap64 _ (by omega)] at h1
   omega
  rw [this,Nat.mod_eq_of_lt (by omega)]
  omega
 obtain ⟨y2,u2,e2,f2⟩:=Jm (d+13) (id:=(J:Int)) (f:=(k:Int)) hst.nK ry (fun c hc=>by have:=oy c hc;omega) (by omega) (by omega) (by omega)
 rw [← hg] at e2
 have hgl:dD (J:Int) (k:Int) o.st=g.l:=by rw [hg];rfl
 rw [hgl] at f2
 obtain ⟨u3,e3,g3⟩:=AB (d+12) f2.gr.wf hok f2.rd (fun c hc=>(f2.new c hc).2)
 obtain ⟨u4,ya,g4,r4,z4⟩:=GV g3.wf (cJ g)
 have F5:=(f2.gr.trans g3).trans g4
 have h4:=hst.k9 F5
 have hz:u.size<=u3.size:=by have:=f2.gr.2.1;have:=g3.2.1;omega
 obtain ⟨u5,c5,e5,I5⟩:=install_run (d+1) h4 oB Dw (by omega) hok Iu (by omega) (by omega) r4 (fun c hc=>by cases hc;exact ⟨by omega,by rw [mu hz];decide⟩) (fun ha=>inst_no Ga hst.ok.2.1 Iu (by omega) (by omega) ha) (by omega) (by omega)
 rw [Wo] at e5
 have fin:∃ ρ' E' fs' l' q' sure',iK s0 D u5 (k+1) ρ' E' fs' l' q' sure':=by
  cases I5 with
  | no H hv K _ _ =>
    have hlen:=congrArg List.length hv
    rw [dm,dm] at hlen
    exact ⟨_,_,_,_,_,_,hH.move H (by rw [hv];exact Ga) ((O3 F5).trans K) (by omega) Ix (by omega) ⟨rfl,rfl,rfl⟩⟩
  | ok H Rx hv K hD XI hfit =>
    have RD:=Ga.inst hst.ok.2.1 hok Iu (by omega) (by omega) XI
    rw [← hv] at RD
    refine ⟨_,_,_,_,_,_,hH.move H RD ((O3 F5).trans K) (by simp;omega) (x5 Ix (by simp [ic])) ?_ hD⟩
    have h1:=congrArg List.length hv
    rw [dm] at h1
    have h3:=pR (aZ (bj (ic g))) (cu fs++[⟨bw (J+1),U (cJ g),(cJ g).length⟩])
    rw [List.length_append,dm] at h3
    simp at h3
    omega
 obtain ⟨ρ',E',fs',l',q',sure',hF⟩:=fin
 refine ⟨u5,ρ',E',fs',l',q',sure',?_,hF⟩
 unfold lI
 clear hF I5 hJ hM Iu hg hgl
 simp only [Nat.add_assoc,Nat.reduceAdd] at e2 e3 e5
 generalize R (d+15)=rr at *
 generalize ((k+1:Nat):Int)=K1 at *
 generalize ((k:Nat):Int)=K0 at *
 generalize ((J:Nat):Int)=JJ at *
 generalize ((rows.length:Nat):Int)=LL at *
 generalize ((o.st.length:Nat):Int)=SL at *
 generalize ((bP o.i:Nat):Int)=RK at *
 simp [lx,c0,ix,Ji,ly,SG,lW,c1,r1,c3,qN,hm,m3,m4,m5,e2,e3,ah,ya,e5,w1]
theorem OB (d:Nat) (h:iK s0 D u 0 ρ E fs l q sure) (ha:Rd 14 s0 xa rows.length rows.flatten) (hr:aT (Gx s0) ops rows) (Td:∀ c,own xa=some c->c<s0.size) (hl:rows.length<=30) {KP DD:T} :
 ∃ u',loops (lI (R (d+15)) 8192) 8192 [Z xa,KP,DD,Z (.ptr D.p 0),I .i64 0] u=some (.ret (B true),u') ∨
 ∃ ρ' E' fs' l' q' sure',loops (lI (R (d+15)) 8192) 8192 [Z xa,KP,DD,Z (.ptr D.p 0),I .i64 0] u=some (.exit 0 [KP,DD,Z (.ptr D.p 0)],u')/\iK s0 D u' rows.length ρ' E' fs' l' q' sure':=by
 have eo:=aA hr
 obtain ⟨j,t,lp,H⟩:=aV (f:=lI (R (d+15)) 8192)
  (fun f v u=>∃ k ρ E fs l q sure,f+k=rows.length/\v=[Z xa,KP,DD,Z (.ptr D.p 0),I .i64 ((k:Nat):Int)]/\iK s0 D u k ρ E fs l q sure)
  (fun j u=>j = .ret (B true)\/j = .exit 0 [KP,DD,Z (.ptr D.p 0)]/\∃ ρ E fs l q sure,iK s0 D u rows.length ρ E fs l q sure) (by
  rintro f v u ⟨k,ρ,E,fs,l,q,sure,hf,rfl,H⟩
  by_cases hk:k<rows.length
  · have ho:ops[k]? = some (ops[k]'(by omega)):=List.getElem?_eq_getElem (by omega)
    obtain ⟨o,hoo⟩:∃ o,o=ops[k]'(by omega):=⟨_,rfl⟩
    rw [← hoo] at ho
    by_cases h20:o.st.length<=20
    · obtain ⟨u',ρ',E',fs',l',q',sure',e,H'⟩:=OC d H ha hr Td ho (by omega) h20 (KP:=KP) (DD:=DD)
      exact .inl ⟨_,u',f-1,e,by omega,k+1,ρ',E',fs',l',q',sure',by omega,rfl,H'⟩
    · right
      obtain ⟨c,p,y,ix,qN,lW,Ji,ry,oy⟩:=Py ha hr ho H.kp Td
      have lx:=ha.lens
      have c0:((k:Nat):Int)<((rows.length:Nat):Int):=by omega
      have ly:=ry.lens
      have SG:(20:Int)<((o.st.length:Nat):Int):=by omega
      have e9:=kI (d+14) u
      refine ⟨.ret (B true),u,?_,(fun v h=>by cases h),.inl rfl⟩
      unfold lI
      simp only [Nat.add_assoc,Nat.reduceAdd] at e9
      generalize R (d+15)=rr at *
      generalize ((k:Nat):Int)=K0 at *
      generalize ((rows.length:Nat):Int)=LL at *
      generalize ((o.st.length:Nat):Int)=SL at *
      simp [lx,c0,ix,Ji,ly,SG,e9]
  · right
    have hkk:k=rows.length:=by omega
    subst hkk
    have lx:=ha.lens
    refine ⟨.exit 0 [KP,DD,Z (.ptr D.p 0)],u,?_,(fun v h=>by cases h),.inr ⟨rfl,ρ,E,fs,l,q,sure,H⟩⟩
    unfold lI
    generalize ((rows.length:Nat):Int)=LL at *
    simp [lx])
  8192 rows.length _ u ⟨0,ρ,E,fs,l,q,sure,rfl,rfl,h⟩ (by omega)
 refine ⟨t,?_⟩
 have e0:((0:Nat):Int)=0:=rfl
 rw [e0] at lp
 rcases H with rfl | ⟨rfl,ρ',E',fs',l',q',sure',H⟩
 · exact .inl lp
 · exact .inr ⟨ρ',E',fs',l',q',sure',lp,H⟩
end
section
variable {s t:St} {x y:S} {l m:List bA} {i c j:Nat}
theorem Fm (d:Nat) (h:RE s x (m.take j)) (k:RE s y m) (hj:j<=m.length) (hl:m.length<=8000):R (d+1) 79 [Z x,Z y] s=some (I .i64 (j:Nat),s):=by
 rw [M0]
 unfold f79
 have eo:=h.lens
 have Pu:=k.lens
 have hjl:(m.take j).length=j:=by rw [List.length_take];omega
 rw [hjl] at eo
 have eqn:=P8
 obtain ⟨o,τ,lp,ho,ph⟩:=aV (f:=xL (R d) 8192) (fun q v u=>∃ n:Nat,q+n=j/\v=[Z x,Z y,I .i64 n]/\u=s)
  (fun o u=>o = .exit 0 [I .i64 (j:Nat)]/\u=s) (by
  rintro q v u ⟨n,hn,rfl,rfl⟩
  by_cases h1:n<j
  · left
    have c1:((n:Nat):Int)<((j:Nat):Int):=by omega
    have c2:((n:Nat):Int)<((m.length:Nat):Int):=by omega
    have hma:m[n]? = some (m[n]'(by omega)):=List.getElem?_eq_getElem (by omega)
    have hla:(m.take j)[n]? = some (m[n]'(by omega)):=by rw [List.getElem?_take,if_pos h1];exact hma
    obtain ⟨p,ix,ld⟩:=RE.VR h (n:=(n:Int)) rfl hla
    obtain ⟨p',tS,U8⟩:=RE.VR k (n:=(n:Int)) rfl hma
    have w1:IntKind.i64.wrap ((n:Int)+1)=((n+1:Nat):Int):=by rw [aE _ (by omega) (by omega)];omega
    refine ⟨[Z x,Z y,I .i64 ((n+1:Nat):Int)],u,q-1,?_,by omega,n+1,by omega,rfl,rfl⟩
    unfold xL
    generalize (m[n]'(by omega))=em at *
    generalize ((n+1:Nat):Int)=N1 at *
    generalize ((j:Nat):Int)=LL at *
    generalize ((m.length:Nat):Int)=ML at *
    generalize (n:Int)=NN at *
    simp [eo,Pu,c1,c2,ix,tS,ld,U8,eqn,w1]
  · right
    have hnj:n=j:=by omega
    subst hnj
    refine ⟨.exit 0 [I .i64 (n:Nat)],u,?_,(fun v hv=>by cases hv),rfl,rfl⟩
    unfold xL
    generalize ((m.length:Nat):Int)=ML at *
    generalize (n:Int)=NN at *
    simp [eo,Pu,kN])
  8192 j _ s ⟨0,by omega,rfl,rfl⟩ (by omega)
 obtain ⟨rfl,rfl⟩:=And.intro ho ph
 have e0:((0:Nat):Int)=0:=rfl
 rw [e0] at lp
 simp [lp]
theorem ua (d:Nat) (h:RE s x (m.take j)) (k:RE s y m) (hj:j<=m.length) (hl:m.length<=8000):R (d+2) 26 [Z x,Z y] s=some (B true,s):=by
 have e:=Fm d h k hj hl
 have eo:=h.lens
 have hjl:(m.take j).length=j:=by rw [List.length_take];omega
 rw [hjl] at eo
 rw [Mz]
 unfold f26
 generalize R (d+1)=rr at *
 simp [e,eo]
theorem Fq (d:Nat) (h:RE s x m) (k:RE s y m) (hl:m.length<=8000):R (d+3) 31 [Z x,Z y] s=some (B true,s):=by
 have h':RE s x (m.take m.length):=by rw [List.take_length];exact h
 have e:=ua d h' k (Nat.le_refl _) hl
 have eo:=h.lens
 have Pu:=k.lens
 rw [MD]
 unfold f31
 generalize R (d+2)=rr at *
 simp [eo,Pu,e]
end
section
variable {ρ ρ':Nat->Nat} {s t u s0:St} {D E:mS} {room:Int} {fs fs':List Fl} {l es:List bA} {q:FoS} {sure:Nat} {i m n k:Nat} {e:bA} {x xa y z:S} {bs:Bs} {kl:List Int} {vs:List FV} {g:Sg} {o:Op} {ops:List Op} {rows:List (List S)} {ls:List dB}
theorem wh (d:Nat) (h:Dk s i m room fs) (hl:∀ f∈fs,f.nm.length<=1000) (hf:fs.length<=1000):∃ T t,R (d+1) 29 [Z (.ptr i 0)] s=some (T,t)/\az T=some (I .i64 fs.length)/\Gr s t:=by
 rcases kg d h hl hf with ⟨rfl,e⟩ | ⟨_,e⟩
 · exact ⟨_,_,e,rfl,Gr.refl h.wf⟩
 · exact ⟨_,_,e,rfl,Gr.push h.wf _⟩
theorem wu:∀ (L l:List Bs),l.Nodup->(∀ a∈l,a∈L)->l.length<=L.length
 | [],l,_,h=>by
   cases l with
   | nil=>simp
   | cons a r=>exact absurd (h a List.mem_cons_self) (by simp)
 | b::L,l,hn,h=>by
   have ih:=wu L (l.erase b) (hn.erase b) fun a ha=>by
    have h1:=List.mem_of_mem_erase ha
    have h2:a≠b:=fun e=>by
     rw [e] at ha
     exact (List.Nodup.not_mem_erase hn) ha
    rcases List.mem_cons.1 (h a h1) with e | e
    · exact absurd e h2
    · exact e
   have:=List.length_erase_le (a:=b) (l:=l)
   by_cases hb:b∈l
   · rw [List.length_erase_of_mem hb] at ih
     rw [List.length_cons];omega
   · rw [List.erase_of_not_mem hb] at ih
     rw [List.length_cons];omega
theorem Ff (h:vn vs) (nd:(vs.map (·.nm)).Nodup):vs.length<=100:=by
 have:=wu (dL::(List.range 65).map bw) _ nd fun a ha=>by
  obtain ⟨v,hv,rfl⟩:=List.mem_map.1 ha
  rcases h v hv with e | ⟨k,h1,h2,e⟩
  · rw [e];exact List.mem_cons_self
  · rw [e];exact List.mem_cons_of_mem _ (List.mem_map_of_mem (List.mem_range.2 (by omega)))
 simp at this
 omega
set_option maxHeartbeats 2000000 in
theorem FA (d:Nat) (h:aX ρ s D room fs l q sure) (hz:Rd 5 s z q.l.length (cells cI q.l)) (zQ:∀ c,own z=some c->c<s.size) (yO:q.l.length<=8000) (ha:∀ a∈q.l,jG (cu fs) a) {KP DD NW:T} :
 ∃ t,loops (zE (R (d+6)) 8192) 8192 [KP,DD,Z (.ptr D.p 0),NW,Z z,I .i64 0] s=some (.exit 3 [KP,DD,NW],t)/\Gr s t:=by
 have lz:=hz.lens
 obtain ⟨j,t,lp,rfl,g⟩:=aV (f:=zE (R (d+6)) 8192)
  (fun f v u=>∃ k:Nat,f+k=q.l.length/\v=[KP,DD,Z (.ptr D.p 0),NW,Z z,I .i64 k]/\Gr s u)
  (fun j u=>j = .exit 3 [KP,DD,NW]/\Gr s u) (by
  rintro f v u ⟨k,hf,rfl,gu⟩
  by_cases hk:k<q.l.length
  · left
    obtain ⟨a,haa⟩:∃ a,a=q.l[k]:=⟨_,rfl⟩
    have xQ:q.l[k]? = some a:=by rw [List.getElem?_eq_getElem hk,haa]
    have jP:a∈q.l:=List.mem_of_getElem? xQ
    have WH:=Rd.gr hz zQ gu
    obtain ⟨t1,w,sg,e1,g1,hag⟩:=Kl d (h.gr gu) jP (ha a jP) yO
    obtain ⟨s2,lS⟩:∃ s2,s2=t1.push (.cells true [.int .i64 0,.int .i64 0,.int .i64 0,.int .i64 0,.ay,.ay]):=⟨_,rfl⟩
    have wz:aL t1 (bb [.int .i64 0,.int .i64 0,.int .i64 0,.int .i64 0,.ay,.ay])=some (Z (.ptr t1.size 0),s2):=by rw [lS];rfl
    have g2:Gr t1 s2:=by rw [lS];exact Gr.push g1.wf _
    have b2:s2.get t1.size=some (.cells true [.int .i64 0,.int .i64 0,.int .i64 0,.int .i64 0,.ay,.ay]):=by rw [lS];exact St.aq _ _
    obtain ⟨s3,kZ⟩:∃ s3,s3=s2.set t1.size (.cells true (cG sg w)):=⟨_,rfl⟩
    have FJ:aw 6 (Z (.ptr t1.size 0)) (AG sg w) s2=some (tt,s3):=by rw [kZ];exact mN b2 rfl
    have b3:s3.get t1.size=some (.cells true (cG sg w)):=by rw [kZ];exact St.ar _ _ _
    have f2:ab (Z (.ptr t1.size 2)) s3.get=some (I .i64 sg.f):=ai b3 rfl
    have f3:ab (Z (.ptr t1.size 3)) s3.get=some (I .i64 sg.o):=ai b3 rfl
    have g3:Gr t1 s3:=by
     rw [kZ]
     exact ⟨St.wf_set g2.wf (g2.wf.lt b2) _,by simpa using g2.2.1,fun c hc=>by rw [St.aj _ _ (by omega)];exact g2.2.2 c hc⟩
    have gu3:=(gu.trans g1).trans g3
    have UW:=Rd.gr hz zQ gu3
    obtain ⟨c,p,ix,l0,_⟩:=Rd.at WH (i:=((k:Nat):Int)) (j:=k) rfl hk
    obtain ⟨c',p',tS,l1,_⟩:=Rd.at UW (i:=((k:Nat):Int)) (j:=k) rfl hk
    rw [ix] at tS
    injection tS with tS
    injection tS with tS
    injection tS with tS
    injection tS with hc hp
    subst hc
    subst hp
    have q0:=l0 0 (.int .i64 a.i) (by omega) (by rw [gf eG xQ (by omega)];rfl)
    have q2:=l1 2 (.int .i64 a.f) (by omega) (by rw [gf eG xQ (by omega)];rfl)
    have q3:=l1 3 (.int .i64 a.o) (by omega) (by rw [gf eG xQ (by omega)];rfl)
    rw [Nat.add_zero] at q0
    have Cb:sg.f=a.f:=by rw [hag];rfl
    have si:sg.o=a.o:=by rw [hag];rfl
    rw [Cb] at f2
    rw [si] at f3
    have c0:((k:Nat):Int)<((q.l.length:Nat):Int):=by omega
    have w1:IntKind.i64.wrap ((k:Int)+1)=((k+1:Nat):Int):=by rw [aE _ (by omega) (by omega)];omega
    refine ⟨[KP,DD,Z (.ptr D.p 0),NW,Z z,I .i64 ((k+1:Nat):Int)],s3,f-1,?_,by omega,k+1,by omega,rfl,gu3⟩
    unfold zE
    generalize R (d+6)=rr at *
    generalize ((k+1:Nat):Int)=K1 at *
    generalize ((k:Nat):Int)=K0 at *
    generalize ((q.l.length:Nat):Int)=LL at *
    generalize t1.size=zz at *
    simp [lz,c0,ix,q0,e1,ah,wz,FJ,f2,f3,q2,q3,w1]
  · right
    have hkk:k=q.l.length:=by omega
    subst hkk
    refine ⟨.exit 3 [KP,DD,NW],u,?_,(fun v h=>by cases h),rfl,gu⟩
    unfold zE
    generalize ((q.l.length:Nat):Int)=LL at *
    simp [lz])
  8192 q.l.length _ s ⟨0,by omega,rfl,Gr.refl h.nK⟩ (by omega)
 exact ⟨t,lp,g⟩
set_option maxHeartbeats 8000000 in
theorem Kk (d:Nat) (wf:s.wf) (ha:Rd 14 s xa rows.length rows.flatten) (hr:aT (Gx s) ops rows) (Td:∀ c,own xa=some c->c<s.size) (hy:Rd 1 s y kl.length (kl.map (S.int .i64))) (Dz:∀ c,own y=some c->c<s.size) :
 ∃ t,R (d+16) 4 [Z xa,Z y] s=some (B true,t):=by
 have lx:=ha.lens
 have lk:=hy.lens
 rw [QD]
 unfold f4
 by_cases hl1:rows.length<=30
 rotate_left
 · have e9:=kI (d+14) s
   have c1:(30:Int)<((rows.length:Nat):Int):=by omega
   refine ⟨s,?_⟩
   simp only [Nat.add_assoc,Nat.reduceAdd] at e9
   generalize R (d+15)=rr at *
   generalize ((rows.length:Nat):Int)=LL at *
   simp [lx,c1,e9,kN]
 have c1:¬ (30:Int)<((rows.length:Nat):Int):=by omega
 by_cases hl2:kl.length<=30
 rotate_left
 · have e9:=kI (d+14) s
   have c2:(30:Int)<((kl.length:Nat):Int):=by omega
   refine ⟨s,?_⟩
   simp only [Nat.add_assoc,Nat.reduceAdd] at e9
   generalize R (d+15)=rr at *
   generalize ((rows.length:Nat):Int)=LL at *
   generalize ((kl.length:Nat):Int)=KL at *
   simp [lx,lk,c1,c2,e9]
 have c2:¬ (30:Int)<((kl.length:Nat):Int):=by omega
 obtain ⟨s1,e1,k1,g1⟩:=G0 (room:=100000) (d+14) wf (by omega) (by omega)
 obtain ⟨Bc,EW⟩:∃ Bc:Nat->Nat,Bc=fun c=>if c<s.size then 9 else 0:=⟨_,rfl⟩
 have rb1:∀ c,s.size<=c->Bc c=0:=fun c hc=>by rw [EW];exact if_neg (by omega)
 have W8:∀ c,c<s.size->Bc c=9:=fun c hc=>by rw [EW];exact if_pos hc
 have r0:kT []=([],0):=rfl
 obtain ⟨Z9,D,We,s2,e2,h2,v2,⟨hi2,Rz⟩,k2⟩:=vK (ρ:=Bc) (d+2) k1 (bs:=[]) ⟨fun v hv=>(by cases hv),fun _=>rfl⟩ (fun v hv=>(by cases hv)) (by simp) (rb1 _ (by omega)) (rb1 _ (Nat.le_refl _)) (fun f hf=>(by cases hf)) (by decide) r0 rfl (by decide) rfl (fun a ha=>(by cases ha)) (by decide) (fun e he=>(by cases he)) (by decide)
 have YQ:cu We=[]:=v2
 have hI:fB (cu We) [] lL 0:=by
  rw [YQ]
  refine ⟨.inr ⟨fun v hv=>(by cases hv),rfl,rfl⟩,fun v hv=>(by cases hv),fun a ha=>(by cases ha),fun v hv=>(by cases hv),fun n _ hn q' qK a ha => ?_,rfl,rfl,by simp,Nat.le_refl _⟩
  have:n=0:=by simpa using hn
  subst this
  cases qK
  cases ha
 have aao:We.length=0:=by
  have:=congrArg List.length YQ
  rw [dm] at this
  simpa using this
 have z1:=g1.2.1
 have HF:iK s D s2 0 Z9 D We [] lL 0:=⟨h2,hI,Nat.le_refl _,fun e he=>(by cases he),by omega,by have:=k2.sz;omega,fun c hc=>by rw [k2.ro c (by omega)];exact W8 c hc,fun c hc=>by rw [k2.kp c (by omega) (by rw [W8 c hc];decide)];exact g1.2.2 c hc,⟨rfl,rfl,rfl⟩⟩
 have pD:fT .p (Z (.ptr D.p 0)) (Z .bL)=some (B false):=rfl
 obtain ⟨s3,hlp⟩:=OB d HF ha hr Td hl1 (KP:=Z y) (DD:=Z (.ptr (s.size+1) 0))
 rcases hlp with lp | ⟨ρ3,E,fs3,l,q,sure,lp,H3⟩
 · refine ⟨s3,?_⟩
   simp only [Nat.add_assoc,Nat.reduceAdd] at e1 e2 lp
   generalize R (d+15)=rr at *
   generalize ((rows.length:Nat):Int)=LL at *
   generalize ((kl.length:Nat):Int)=KL at *
   generalize s.size+1=ss at *
   simp [lx,lk,c1,c2,e1,e2,ah,pD,lp]
 have Dw:=H3.nice (by omega)
 obtain ⟨h3,iv3,ll3,lx3,fl3,sz3,ro3,kp3,⟨bp3,VY,bm3⟩⟩:=H3
 have O9:=ig _ lx3
 obtain ⟨y4,s4,e4,F4⟩:=lH (d+13) h3
 have h4:=h3.k9 F4.gr
 have z4:=F4.gr.2.1
 have e5:=AX (d+14) h4
 rw [bp3] at e4 e5
 have NF:∀ c,own y=some c->c<s4.size/\7<=tk ρ3 s3.size c:=fun c hc=>by
  have:=Dz c hc
  rw [cy (by omega),ro3 c this]
  omega
 have UR:Rd 1 s4 y kl.length (kl.map (S.int .i64)):=hy.keep fun c hc=>by
  have:=Dz c hc
  rw [F4.gr.2.2 c (by omega),kp3 c this]
 obtain ⟨s6,Xf,D7,Q9,s7,j,q7,e6,e7,h7,UZ,S2,Np,⟨Du,zO⟩,k7,_⟩:=uq (d+2) h4 iv3 (by omega) (by omega) UR NF
 have hjl:(l.take j).length=j:=by rw [List.length_take];omega
 have aap:Q9.length<=100:=by have:=Ff UZ.nm UZ.nd;rwa [dm] at this
 rw [VY,hi2] at e6 e7
 obtain ⟨y8,s8,e8,F8⟩:=lH (d+13) h7
 have h8:=h7.k9 F8.gr
 have z7:=k7.sz
 have z8:=F8.gr.2.1
 have l8:=F8.rd.lens
 rw [hjl] at l8
 have cj:¬ ((j:Nat):Int)<((sure:Nat):Int):=by omega
 have y4l:∀ c,own y4=some c->s3.size<=c/\c<s4.size:=fun c hc=>F4.new c hc
 have Y4:RE s8 y4 l:=F4.rd.keep fun c hc=>by
  have:=y4l c hc
  rw [F8.gr.2.2 c (by omega),k7.kp c (by omega) (by rw [mu (by omega)];decide)]
 have e9:=ua (d+13) F8.rd Y4 Np (by omega)
 have qG:=AX (d+14) h8
 have hq7:q7.l.length<=8000:=by
  have h1:=h8.ok.2.1.len
  have h2:=h8.ok.2.2
  omega
 obtain ⟨z,bO,Bf,Bt⟩:=CO (d+12) h8 hq7
 have VK:=Bt.gr.2.1
 have h11:=h8.k9 Bt.gr
 obtain ⟨bW,KT,g12⟩:=FA (d+9) h11 Bt.rd (fun c hc=>(Bt.new c hc).2) hq7 UZ.Gk (KP:=Z y) (DD:=Z (.ptr (s.size+1) 0)) (NW:=Z y8)
 have z12:=g12.2.1
 have h12:=h11.gr g12
 have Uq:∀ f∈Q9,f.nm.length<=1000:=fun f hf=>by
  rcases UZ.nm (vw f) (List.mem_map_of_mem hf) with e | ⟨k,_,_,e⟩
  · rw [show f.nm=dL from e];decide
  · rw [show f.nm=bw k from e];have:=iF (k:=k);omega
 obtain ⟨N13,dX,Bg,U7,g13⟩:=wh (d+14) h12.dk Uq (by omega)
 have Ra:=h12.k9 g13
 obtain ⟨fR,KH,g14⟩:=jM (d+13) Ra.dk Uq (by omega)
 have Nj:=Ra.k9 g14
 have z13:=g13.2.1
 have z14:=g14.2.1
 rw [Du,VY,hi2] at Bg KH
 have YV:Rd 1 fR y kl.length (kl.map (S.int .i64)):=UR.keep fun c hc=>by
  have h1:=(NF c hc).1
  have h2:=(NF c hc).2
  rw [g14.2.2 c (by omega),g13.2.2 c (by omega),g12.2.2 c (by omega),Bt.gr.2.2 c (by omega),F8.gr.2.2 c (by omega),k7.kp c h1 h2]
 have lx7:∀ e∈l.take j,e.x.length<=10:=fun e he=>lx3 e (List.mem_of_mem_take he)
 have X7:=ig _ lx7
 rw [hjl] at X7
 obtain ⟨gv,aaH,D16,Q8,fV,Te,ZC,TA,TB,Xy,Y6,aar,Ui,⟨Yb,aav⟩,k16,hsame⟩:=uq (d+2) Nj UZ (by omega) (by omega) YV (fun c hc=>by
  have h1:=(NF c hc).1
  have h2:=Dz c hc
  refine ⟨by omega,?_⟩
  rw [cy (by omega),cy (by omega),cy (by omega),cy (by omega),k7.ro c h1,cy (by omega),ro3 c h2]
  decide)
 obtain ⟨UO,aaz⟩:=hsame hjl.symm
 rw [hjl] at Ui
 have hjj:Te=j:=by omega
 subst hjj
 have lh:(l.take Te).take Te=l.take Te:=by rw [List.take_take,Nat.min_self]
 rw [lh] at Xy
 rw [Du,VY,hi2] at TA TB
 have TC:=kI (d+14) fV
 obtain ⟨y18,gV,TD,VO⟩:=lH (d+13) Xy
 have z16:=k16.sz
 have z18:=VO.gr.2.1
 have h18:=Xy.gr VO.gr
 have Y8:RE gV y8 (l.take Te):=F8.rd.keep fun c hc=>by
  have:=F8.new c hc
  rw [VO.gr.2.2 c (by omega),k16.kp c (by omega) (by rw [cy (by omega),cy (by omega),cy (by omega),mu (by omega)];decide),g14.2.2 c (by omega),g13.2.2 c (by omega),g12.2.2 c (by omega),Bt.gr.2.2 c (by omega)]
 have Wa:=Fq (d+12) VO.rd Y8 (by omega)
 have Rw:Q8.length=Q9.length:=by have:=congrArg List.length UO;rwa [dm,dm] at this
 have RM:tot Q8=tot Q9:=by rw [kJ,kJ,UO]
 have Pg:∀ f∈Q8,f.nm.length<=1000:=fun f hf=>by
  rcases Y6.nm (vw f) (List.mem_map_of_mem hf) with e | ⟨k,_,_,e⟩
  · rw [show f.nm=dL from e];decide
  · rw [show f.nm=bw k from e];have:=iF (k:=k);omega
 obtain ⟨N20,mg,TE,WO,g20⟩:=wh (d+14) h18.dk Pg (by omega)
 obtain ⟨kU,P6,g21⟩:=jM (d+13) (h18.gr g20).dk Pg (by omega)
 rw [Yb,Du,VY,hi2] at TE P6
 rw [Rw] at WO
 rw [RM] at P6
 have pD7:Bn .p (Z (.ptr D7.p 0)) (Z .bL)=some (B true):=rfl
 have pE7:fT .p (Z (.ptr D7.p 0)) (Z .bL)=some (B false):=rfl
 have Zz:Bn .p (Z (.ptr D16.p 0)) (Z .bL)=some (B true):=rfl
 refine ⟨kU,?_⟩
 clear EW HF hI
 simp only [Nat.add_assoc,Nat.reduceAdd] at e1 e2 lp e4 e5 e6 e7 e8 e9 qG Bf KT Bg KH TA TB TC TD Wa TE P6
 generalize R (d+15)=rr at *
 generalize ((rows.length:Nat):Int)=LL at *
 generalize ((kl.length:Nat):Int)=KL at *
 generalize ((Te:Nat):Int)=JJ at *
 generalize ((sure:Nat):Int)=SU at *
 generalize ((tot Q9:Nat):Int)=TT at *
 generalize ((Q9.length:Nat):Int)=FL at *
 generalize s.size+1=ss at *
 simp [lx,lk,c1,c2,e1,e2,ah,pD,lp,e4,e5,e6,e7,pE7,pD7,e8,l8,cj,e9,qG,Bf,KT,Bg,U7,KH,TA,TB,TC,Zz,TD,Wa,TE,WO,P6,kN]
end
end Go.Proofs.YtbohejffelipoaaGreatDoor
namespace Go.Proofs
open Go.Shelf
def Tryz.qM:Go.Shelf.Ren:=⟨fun | 156=>181 | 165=>220 | 166=>221 | 169=>222 | 240=>249 | 241=>250 | 276=>268 | 277=>269 | n=>n,fun | 31=>69 | 9=>9 | 3=>3 | 4=>4 | 0=>0 | 20=>20 | 72=>265 | 76=>156 | 70=>263 | 37=>22 | 75=>155 | 127=>289 | 164=>307 | 5=>5 | 80=>267 | n=>n,fun | n=>n⟩
theorem Tryz.DG:Go.Proofs.Lays.n156 Tryz.prog Tryz.qM:={
 mixed:=by kernel_rfl
 f156:=Tryz.func181.trans (congrArg some (by kernel_rfl))
 f165:=Tryz.func220.trans (congrArg some (by kernel_rfl))
 f166:=Tryz.func221.trans (congrArg some (by kernel_rfl))
 f169:=Tryz.func222.trans (congrArg some (by kernel_rfl))
 f240:=Tryz.func249.trans (congrArg some (by kernel_rfl))
 f241:=Tryz.func250.trans (congrArg some (by kernel_rfl))
 f276:=Tryz.func268.trans (congrArg some (by kernel_rfl))
 f277:=Tryz.func269.trans (congrArg some (by kernel_rfl))
 t0:=Tryz.underlying0
 a0:=Tryz.isAgg0
 z0:=Tryz.sizeOf0
 v0:=Tryz.zeroValue0
 t3:=Tryz.underlying3
 a3:=Tryz.isAgg3
 z3:=Tryz.sizeOf3
 v3:=Tryz.zeroValue3
 t4:=Tryz.underlying4
 a4:=Tryz.isAgg4
 z4:=Tryz.sizeOf4
 v4:=Tryz.zeroValue4
 t9:=Tryz.underlying9
 a9:=Tryz.isAgg9
 z9:=Tryz.sizeOf9
 v9:=Tryz.zeroValue9
 t20:=Tryz.underlying20
 a20:=Tryz.isAgg20
 z20:=Tryz.sizeOf20
 v20:=Tryz.zeroValue20
 t31:=Tryz.underlying69
 a31:=Tryz.isAgg69
 z31:=Tryz.sizeOf69
 v31:=Tryz.zeroValue69
 t37:=Tryz.underlying22
 a37:=Tryz.isAgg22
 z37:=Tryz.sizeOf22
 v37:=Tryz.zeroValue22
 t70:=Tryz.underlying263
 a70:=Tryz.isAgg263
 z70:=Tryz.sizeOf263
 v70:=Tryz.zeroValue263
 t72:=Tryz.underlying265
 a72:=Tryz.isAgg265
 z72:=Tryz.sizeOf265
 v72:=Tryz.zeroValue265
 t75:=Tryz.underlying155
 a75:=Tryz.isAgg155
 z75:=Tryz.sizeOf155
 v75:=Tryz.zeroValue155
 t76:=Tryz.underlying156
 a76:=Tryz.isAgg156
 z76:=Tryz.sizeOf156
 v76:=Tryz.zeroValue156
 t127:=Tryz.underlying289
 a127:=Tryz.isAgg289
 z127:=Tryz.sizeOf289
 v127:=Tryz.zeroValue289
 t164:=Tryz.underlying307
 a164:=Tryz.isAgg307
 z164:=Tryz.sizeOf307
 v164:=Tryz.zeroValue307 }
theorem Tryz.jc:Builder.Extra Tryz.prog Tryz.qM:={
 sizeBuilder:=by kernel_rfl
 liesBuilder:=by kernel_rfl
 t5:=Tryz.underlying5
 a5:=Tryz.isAgg5
 z5:=Tryz.sizeOf5
 v5:=Tryz.zeroValue5
 infoByte:=by kernel_rfl
 cellsByte:=by kernel_rfl
 sizeByte:=by kernel_rfl
 neB5:=by decide }
open Go.RowKit in
theorem Tryz.strings_Join_none (a:Option Addr) (c:Nat) (sep:ByteArray) (w:World) :
 Calls Tryz.prog 181 #[.slice a 0 c,.string sep] w fun e w'=>e = .returned (.string ⟨#[]⟩)/\w'=w:=Any.strings_Join_none Tryz.DG Tryz.jc a c sep w
open Go.RowKit in
theorem Tryz.strings_Join (bk o c:Nat) (xs:List ByteArray) (sep:ByteArray) (w:World) (hcells:∀ (j:Nat) x,xs[j]? = some x->w.cell? ⟨bk,o+j,none⟩=some (.string x)) (hbk:bk<w.heap.size) (hN:xs.length<=140737488355328) (hcap:xs.length<=c) (hlen:(Lib.join (xs.map (·.data.toList)) sep.data.toList).length<=140737488355328) :
 Calls Tryz.prog 181 #[.slice (some ⟨bk,o,none⟩) xs.length c,.string sep] w fun e w'=>e = .returned (.string ⟨(Lib.join (xs.map (·.data.toList)) sep.data.toList).toArray⟩)/\Below w.heap.size w w':=Any.strings_Join Tryz.DG Tryz.jc bk o c xs sep w hcells hbk hN hcap hlen
def Tryz.Aa:Go.Shelf.Ren:=⟨fun | 219=>248 | 217=>266 | 225=>263 | 224=>262 | 267=>267 | 266=>272 | 314=>273 | n=>n,fun | 9=>9 | 3=>3 | 4=>4 | 5=>5 | 46=>29 | 146=>310 | 51=>45 | n=>n,fun | 1=>5 | n=>n⟩
theorem Tryz.NU:Go.Proofs.Lays.n219 Tryz.prog Tryz.Aa:={
 mixed:=by kernel_rfl
 f217:=Tryz.func266.trans (congrArg some (by kernel_rfl))
 f219:=Tryz.func248.trans (congrArg some (by kernel_rfl))
 f224:=Tryz.func262.trans (congrArg some (by kernel_rfl))
 f225:=Tryz.func263.trans (congrArg some (by kernel_rfl))
 f266:=Tryz.func272.trans (congrArg some (by kernel_rfl))
 f267:=Tryz.func267.trans (congrArg some (by kernel_rfl))
 f314:=Tryz.func273.trans (congrArg some (by kernel_rfl))
 t3:=Tryz.underlying3
 a3:=Tryz.isAgg3
 z3:=Tryz.sizeOf3
 v3:=Tryz.zeroValue3
 t4:=Tryz.underlying4
 a4:=Tryz.isAgg4
 z4:=Tryz.sizeOf4
 v4:=Tryz.zeroValue4
 t5:=Tryz.underlying5
 a5:=Tryz.isAgg5
 z5:=Tryz.sizeOf5
 v5:=Tryz.zeroValue5
 t9:=Tryz.underlying9
 a9:=Tryz.isAgg9
 z9:=Tryz.sizeOf9
 v9:=Tryz.zeroValue9
 t46:=Tryz.underlying29
 a46:=Tryz.isAgg29
 z46:=Tryz.sizeOf29
 v46:=Tryz.zeroValue29
 t51:=Tryz.underlying45
 a51:=Tryz.isAgg45
 z51:=Tryz.sizeOf45
 v51:=Tryz.zeroValue45
 t146:=Tryz.underlying310
 a146:=Tryz.isAgg310
 z146:=Tryz.sizeOf310
 v146:=Tryz.zeroValue310
 g1:=by kernel_rfl }
open Go.RowKit Go.Lib in
theorem Tryz.stringslite_Index_one (s:ByteArray) (c:UInt8) (w:World) :
 Calls Tryz.prog 248 #[.string s,.string ⟨#[c]⟩] w fun e w'=>e = .returned (.int .i64 (Lib.indexByte s.data.toList c))/\w'=w:=Any.stringslite_Index_one Tryz.NU s c w
def Tryz.zZ:Go.Shelf.Ren:=⟨fun | 143=>247 | 219=>248 | 217=>266 | 225=>263 | 224=>262 | 267=>267 | 266=>272 | 314=>273 | n=>n,fun | 9=>9 | 3=>3 | 4=>4 | 5=>5 | 46=>29 | 146=>310 | 51=>45 | n=>n,fun | 1=>5 | n=>n⟩
theorem Tryz.NT:Go.Proofs.Lays.n143 Tryz.prog Tryz.zZ:={
 mixed:=by kernel_rfl
 f143:=Tryz.func247.trans (congrArg some (by kernel_rfl))
 f217:=Tryz.func266.trans (congrArg some (by kernel_rfl))
 f219:=Tryz.func248.trans (congrArg some (by kernel_rfl))
 f224:=Tryz.func262.trans (congrArg some (by kernel_rfl))
 f225:=Tryz.func263.trans (congrArg some (by kernel_rfl))
 f266:=Tryz.func272.trans (congrArg some (by kernel_rfl))
 f267:=Tryz.func267.trans (congrArg some (by kernel_rfl))
 f314:=Tryz.func273.trans (congrArg some (by kernel_rfl))
 t3:=Tryz.underlying3
 a3:=Tryz.isAgg3
 z3:=Tryz.sizeOf3
 v3:=Tryz.zeroValue3
 t4:=Tryz.underlying4
 a4:=Tryz.isAgg4
 z4:=Tryz.sizeOf4
 v4:=Tryz.zeroValue4
 t5:=Tryz.underlying5
 a5:=Tryz.isAgg5
 z5:=Tryz.sizeOf5
 v5:=Tryz.zeroValue5
 t9:=Tryz.underlying9
 a9:=Tryz.isAgg9
 z9:=Tryz.sizeOf9
 v9:=Tryz.zeroValue9
 t46:=Tryz.underlying29
 a46:=Tryz.isAgg29
 z46:=Tryz.sizeOf29
 v46:=Tryz.zeroValue29
 t51:=Tryz.underlying45
 a51:=Tryz.isAgg45
 z51:=Tryz.sizeOf45
 v51:=Tryz.zeroValue45
 t146:=Tryz.underlying310
 a146:=Tryz.isAgg310
 z146:=Tryz.sizeOf310
 v146:=Tryz.zeroValue310
 g1:=by kernel_rfl }
open Go.RowKit Go.Lib in
theorem Tryz.strings_Index_one (s:ByteArray) (c:UInt8) (w:World) :
 Calls Tryz.prog 247 #[.string s,.string ⟨#[c]⟩] w fun e w'=>e = .returned (.int .i64 (Lib.indexByte s.data.toList c))/\w'=w:=Any.strings_Index_one Tryz.NT s c w
def Tryz.zY:Go.Shelf.Ren:=⟨fun | 138=>246 | 195=>264 | 218=>265 | 143=>247 | 219=>248 | 217=>266 | 225=>263 | 224=>262 | 267=>267 | 266=>272 | 314=>273 | n=>n,fun | 9=>9 | 3=>3 | 4=>4 | 5=>5 | 0=>0 | 46=>29 | 146=>310 | 51=>45 | n=>n,fun | 1=>5 | n=>n⟩
theorem Tryz.NS:Go.Proofs.Lays.n138 Tryz.prog Tryz.zY:={
 mixed:=by kernel_rfl
 f138:=Tryz.func246.trans (congrArg some (by kernel_rfl))
 f143:=Tryz.func247.trans (congrArg some (by kernel_rfl))
 f195:=Tryz.func264.trans (congrArg some (by kernel_rfl))
 f217:=Tryz.func266.trans (congrArg some (by kernel_rfl))
 f218:=Tryz.func265.trans (congrArg some (by kernel_rfl))
 f219:=Tryz.func248.trans (congrArg some (by kernel_rfl))
 f224:=Tryz.func262.trans (congrArg some (by kernel_rfl))
 f225:=Tryz.func263.trans (congrArg some (by kernel_rfl))
 f266:=Tryz.func272.trans (congrArg some (by kernel_rfl))
 f267:=Tryz.func267.trans (congrArg some (by kernel_rfl))
 f314:=Tryz.func273.trans (congrArg some (by kernel_rfl))
 t0:=Tryz.underlying0
 a0:=Tryz.isAgg0
 z0:=Tryz.sizeOf0
 v0:=Tryz.zeroValue0
 t3:=Tryz.underlying3
 a3:=Tryz.isAgg3
 z3:=Tryz.sizeOf3
 v3:=Tryz.zeroValue3
 t4:=Tryz.underlying4
 a4:=Tryz.isAgg4
 z4:=Tryz.sizeOf4
 v4:=Tryz.zeroValue4
 t5:=Tryz.underlying5
 a5:=Tryz.isAgg5
 z5:=Tryz.sizeOf5
 v5:=Tryz.zeroValue5
 t9:=Tryz.underlying9
 a9:=Tryz.isAgg9
 z9:=Tryz.sizeOf9
 v9:=Tryz.zeroValue9
 t46:=Tryz.underlying29
 a46:=Tryz.isAgg29
 z46:=Tryz.sizeOf29
 v46:=Tryz.zeroValue29
 t51:=Tryz.underlying45
 a51:=Tryz.isAgg45
 z51:=Tryz.sizeOf45
 v51:=Tryz.zeroValue45
 t146:=Tryz.underlying310
 a146:=Tryz.isAgg310
 z146:=Tryz.sizeOf310
 v146:=Tryz.zeroValue310
 g1:=by kernel_rfl }
open Go.RowKit Go.Lib in
theorem Tryz.strings_Count_one (s:ByteArray) (c:UInt8) (w:World) :
 Calls Tryz.prog 246 #[.string s,.string ⟨#[c]⟩] w fun e w'=>e = .returned (.int .i64 (Lib.countByte s.data.toList c))/\w'=w:=Any.strings_Count_one Tryz.NS s c w
def Tryz.vX:Go.Shelf.Ren:=⟨fun | 7=>83 | 10=>125 | n=>n,fun | 23=>81 | 26=>9 | 3=>87 | 28=>138 | 0=>0 | 27=>137 | 33=>93 | 4=>4 | n=>n,fun | n=>n⟩
theorem Tryz.Pt:Go.Proofs.SlLaysZ.n7 Tryz.prog Tryz.vX:={
 mixed:=by kernel_rfl
 f7:=⟨Tryz.f83.name,by decide,Tryz.func83.trans (congrArg some (by kernel_rfl))⟩
 f10:=⟨Tryz.f125.name,by decide,Tryz.func125.trans (congrArg some (by kernel_rfl))⟩
 t0:=Tryz.underlying0
 a0:=Tryz.isAgg0
 z0:=Tryz.sizeOf0
 v0:=Tryz.zeroValue0
 t4:=Tryz.underlying4
 a4:=Tryz.isAgg4
 z4:=Tryz.sizeOf4
 v4:=Tryz.zeroValue4
 t23:=Tryz.underlying81
 a23:=Tryz.isAgg81
 z23:=Tryz.sizeOf81
 v23:=Tryz.zeroValue81
 t26:=Tryz.underlying9
 a26:=Tryz.isAgg9
 z26:=Tryz.sizeOf9
 v26:=Tryz.zeroValue9
 t27:=Tryz.underlying137
 a27:=Tryz.isAgg137
 z27:=Tryz.sizeOf137
 v27:=Tryz.zeroValue137
 t28:=Tryz.underlying138
 a28:=Tryz.isAgg138
 z28:=Tryz.sizeOf138
 v28:=Tryz.zeroValue138
 t33:=Tryz.underlying93
 a33:=Tryz.isAgg93
 z33:=Tryz.sizeOf93
 v33:=Tryz.zeroValue93 }
def Tryz.rq:Go.Shelf.Ren:=⟨fun | 6=>82 | 8=>123 | 9=>124 | 11=>162 | 13=>164 | 12=>163 | 23=>210 | 24=>211 | 14=>201 | 15=>202 | 16=>203 | 17=>204 | 18=>205 | 19=>206 | 20=>207 | 21=>208 | 22=>209 | 25=>235 | 26=>236 | 27=>237 | 28=>238 | 29=>239 | 30=>240 | 31=>259 | n=>n,fun | 26=>9 | 28=>138 | 24=>69 | 0=>0 | 3=>3 | 37=>29 | 48=>45 | 50=>123 | 4=>4 | 40=>248 | 39=>247 | 45=>187 | 5=>5 | 9=>9 | 51=>281 | 55=>284 | 57=>298 | 58=>299 | 33=>93 | n=>n,fun | n=>n⟩
theorem Tryz.OQ:Go.Proofs.SlLaysZ.n6 Tryz.prog Tryz.rq:={
 mixed:=by kernel_rfl
 f6:=⟨Tryz.f82.name,by decide,Tryz.func82.trans (congrArg some (by kernel_rfl))⟩
 f8:=⟨Tryz.f123.name,by decide,Tryz.func123.trans (congrArg some (by kernel_rfl))⟩
 f11:=⟨Tryz.f162.name,by decide,Tryz.func162.trans (congrArg some (by kernel_rfl))⟩
 t0:=Tryz.underlying0
 a0:=Tryz.isAgg0
 z0:=Tryz.sizeOf0
 v0:=Tryz.zeroValue0
 t24:=Tryz.underlying69
 a24:=Tryz.isAgg69
 z24:=Tryz.sizeOf69
 v24:=Tryz.zeroValue69
 t26:=Tryz.underlying9
 a26:=Tryz.isAgg9
 z26:=Tryz.sizeOf9
 v26:=Tryz.zeroValue9
 t28:=Tryz.underlying138
 a28:=Tryz.isAgg138
 z28:=Tryz.sizeOf138
 v28:=Tryz.zeroValue138
 i26:=by kernel_rfl }
def Tryz.FF:Go.Shelf.Ren:=⟨fun | 6=>124 | 8=>164 | 9=>163 | 19=>210 | 20=>211 | 21=>201 | 22=>202 | 23=>203 | 24=>204 | 25=>205 | 26=>206 | 27=>207 | 28=>208 | 29=>209 | 36=>235 | 31=>236 | 32=>237 | 37=>238 | 38=>239 | 39=>240 | 41=>259 | n=>n,fun | 27=>69 | 29=>9 | 3=>3 | 32=>29 | 26=>69 | 0=>0 | 44=>45 | 46=>123 | 4=>4 | 36=>248 | 35=>247 | 41=>187 | 5=>5 | 9=>9 | 53=>281 | 57=>284 | 63=>298 | 64=>299 | n=>n,fun | n=>n⟩
theorem Tryz.PD:Go.Proofs.SlLaysM.n6 Tryz.prog Tryz.FF:={
 mixed:=by kernel_rfl
 f6:=⟨Tryz.f124.name,by decide,Tryz.func124.trans (congrArg some (by kernel_rfl))⟩
 f8:=Tryz.func164.trans (congrArg some (by kernel_rfl))
 f9:=⟨Tryz.f163.name,by decide,Tryz.func163.trans (congrArg some (by kernel_rfl))⟩
 f19:=Tryz.func210.trans (congrArg some (by kernel_rfl))
 f20:=Tryz.func211.trans (congrArg some (by kernel_rfl))
 f21:=⟨Tryz.f201.name,by decide,Tryz.func201.trans (congrArg some (by kernel_rfl))⟩
 f22:=⟨Tryz.f202.name,by decide,Tryz.func202.trans (congrArg some (by kernel_rfl))⟩
 f23:=⟨Tryz.f203.name,by decide,Tryz.func203.trans (congrArg some (by kernel_rfl))⟩
 f24:=⟨Tryz.f204.name,by decide,Tryz.func204.trans (congrArg some (by kernel_rfl))⟩
 f25:=⟨Tryz.f205.name,by decide,Tryz.func205.trans (congrArg some (by kernel_rfl))⟩
 f26:=⟨Tryz.f206.name,by decide,Tryz.func206.trans (congrArg some (by kernel_rfl))⟩
 f27:=⟨Tryz.f207.name,by decide,Tryz.func207.trans (congrArg some (by kernel_rfl))⟩
 f28:=⟨Tryz.f208.name,by decide,Tryz.func208.trans (congrArg some (by kernel_rfl))⟩
 f29:=⟨Tryz.f209.name,by decide,Tryz.func209.trans (congrArg some (by kernel_rfl))⟩
 f31:=Tryz.func236.trans (congrArg some (by kernel_rfl))
 f32:=Tryz.func237.trans (congrArg some (by kernel_rfl))
 f36:=⟨Tryz.f235.name,by decide,Tryz.func235.trans (congrArg some (by kernel_rfl))⟩
 f37:=⟨Tryz.f238.name,by decide,Tryz.func238.trans (congrArg some (by kernel_rfl))⟩
 f38:=⟨Tryz.f239.name,by decide,Tryz.func239.trans (congrArg some (by kernel_rfl))⟩
 f39:=⟨Tryz.f240.name,by decide,Tryz.func240.trans (congrArg some (by kernel_rfl))⟩
 f41:=⟨Tryz.f259.name,by decide,Tryz.func259.trans (congrArg some (by kernel_rfl))⟩
 t0:=Tryz.underlying0
 a0:=Tryz.isAgg0
 z0:=Tryz.sizeOf0
 v0:=Tryz.zeroValue0
 t3:=Tryz.underlying3
 a3:=Tryz.isAgg3
 z3:=Tryz.sizeOf3
 v3:=Tryz.zeroValue3
 t4:=Tryz.underlying4
 a4:=Tryz.isAgg4
 z4:=Tryz.sizeOf4
 v4:=Tryz.zeroValue4
 t5:=Tryz.underlying5
 a5:=Tryz.isAgg5
 z5:=Tryz.sizeOf5
 v5:=Tryz.zeroValue5
 t9:=Tryz.underlying9
 a9:=Tryz.isAgg9
 z9:=Tryz.sizeOf9
 v9:=Tryz.zeroValue9
 t26:=Tryz.underlying69
 a26:=Tryz.isAgg69
 z26:=Tryz.sizeOf69
 v26:=Tryz.zeroValue69
 t27:=Tryz.underlying69
 a27:=Tryz.isAgg69
 z27:=Tryz.sizeOf69
 v27:=Tryz.zeroValue69
 t29:=Tryz.underlying9
 a29:=Tryz.isAgg9
 z29:=Tryz.sizeOf9
 v29:=Tryz.zeroValue9
 t32:=Tryz.underlying29
 a32:=Tryz.isAgg29
 z32:=Tryz.sizeOf29
 v32:=Tryz.zeroValue29
 t35:=Tryz.underlying247
 a35:=Tryz.isAgg247
 z35:=Tryz.sizeOf247
 v35:=Tryz.zeroValue247
 t36:=Tryz.underlying248
 a36:=Tryz.isAgg248
 z36:=Tryz.sizeOf248
 v36:=Tryz.zeroValue248
 t41:=Tryz.underlying187
 a41:=Tryz.isAgg187
 z41:=Tryz.sizeOf187
 v41:=Tryz.zeroValue187
 t44:=Tryz.underlying45
 a44:=Tryz.isAgg45
 z44:=Tryz.sizeOf45
 v44:=Tryz.zeroValue45
 t46:=Tryz.underlying123
 a46:=Tryz.isAgg123
 z46:=Tryz.sizeOf123
 v46:=Tryz.zeroValue123
 t53:=Tryz.underlying281
 a53:=Tryz.isAgg281
 z53:=Tryz.sizeOf281
 v53:=Tryz.zeroValue281
 t57:=Tryz.underlying284
 a57:=Tryz.isAgg284
 z57:=Tryz.sizeOf284
 v57:=Tryz.zeroValue284
 t63:=Tryz.underlying298
 a63:=Tryz.isAgg298
 z63:=Tryz.sizeOf298
 v63:=Tryz.zeroValue298
 t64:=Tryz.underlying299
 a64:=Tryz.isAgg299
 z64:=Tryz.sizeOf299
 v64:=Tryz.zeroValue299 }
end Go.Proofs
namespace Go.Proofs
open Go.RowKit Go.Maps Go.Sort Go.Shelf
theorem Tryz.Sk (m:Nat):AnyZ.SortsIn Tryz.prog Tryz.rq Fence.wide m :=
 ⟨fun blk off cap ss W hH hblk hsz=>callsIn_wide.2 (AnyM.slices_Sort_string Tryz.PD blk off cap ss W hH hblk hsz),
  fun p cap W=>callsIn_wide.2 (AnyM.slices_Sort_string_none Tryz.PD p cap W)⟩
set_option maxHeartbeats 1000000 in
theorem Tryz.Ch {H:Type} (rb ro b nn:Nat) (D0:DataW H) (R:Value->Option (DataW H×List MemPlace)) (w:World) (hc:w.cell? ⟨rb,ro+1,none⟩=some (.map (some b))) (hown:w.ownsMap Tryz.prog 9 R b nn D0) (Yk:Maps.size D0<=maxLen) (hbytes:Maps.size D0*16<=140737488355328) :
 Calls Tryz.prog 29 #[.pointer (some ⟨rb,ro,none⟩)] w fun e w'=>∃ (v:Value) (ss:List (List UInt8)),e = .returned v/\ss.Perm (strKeys D0) ∧
  w'.ownsRow w.heap.size 9 1 v ss.length ((ss.mergeSort (fun x y=>decide (x<=y))).map encStr)/\(v = .slice none 0 0↔ss=[])/\Below w.heap.size w w':=by
 refine (callsIn_wide (n:=6)).1 ?_
 have nL:=hown.lt
 have hseq:SeqGives Fence.wide 2 Tryz.prog 125 #[.pointer (some ⟨w.heap.size,0,none⟩)] encStr (fun ss=>ss.Perm (strKeys D0)) (Maps.size D0) (w.alloc (.cells #[.map (some b)] 81)) :=
  AnyZ.keys_gives (ρ:=Tryz.vX) { Tryz.Pt with } Fence.wide _ trivial rfl (by omega) w.heap.size b nn D0 _ (by simp) (by simp) (by
   obtain ⟨es,clock,hb,Ft,hs,hD⟩:=hown
   exact ⟨es,clock,(Below.heap_alloc _ _ b nL).trans hb,Ft,hs,hD⟩)
 have cK:∀ mb W,CallsIn Fence.wide 5 Tryz.prog 83 #[.map mb] W fun e w'=>e = .returned (.func (.func 125) #[] #[.pointer (some ⟨W.heap.size,0,none⟩)])/\w'=W.alloc (.cells #[.map mb] 81):=fun mb W=>AnyZ.keys_in Tryz.Pt Fence.wide 5 trivial rfl mb W
 have cS:=AnyZ.sorted_in Tryz.OQ Fence.wide 5 trivial trivial trivial trivial rfl (by omega) (Tryz.Sk _) (enters_of Tryz.func124 (by kernel_rfl) rfl) 125 #[.pointer (some ⟨w.heap.size,0,none⟩)] trivial (enters_of Tryz.func125 (by kernel_rfl) rfl) _ _ Yk hbytes _ hseq
 change CallsIn _ _ Tryz.prog 82 _ _ _ at cS
 have hfK:Fence.wide.fn 83:=trivial
 have hfS:Fence.wide.fn 82:=trivial
 refine callsIn_of_wp Tryz.func29 rfl trivial ?_ rfl
 simp only [Tryz.ntmps29,List.size_toArray,List.length_cons,List.length_nil,Nat.reduceAdd,Nat.reduceSub,Array.replicate_succ,Array.replicate_zero,List.push_toArray,List.append_toArray,List.nil_append,List.cons_append]
 gi_wp2_with (first
  | (gi_at_call 83;refine (cK _ _).mono ?_;rintro e w' ⟨rfl,rfl⟩)
  | (gi_at_call 82;refine cS.mono ?_;rintro e w' ⟨v,ss,rfl,hS,hrow,rI,hb⟩))
 go_ret
 exact ⟨v,ss,rfl,hS,ownsRow_base_a hrow (by simp),rI,((Below.refl _ w).alloc (Nat.le_refl _) _).trans (hb.mono (by simp))⟩
end Go.Proofs
namespace Go.Proofs.YtbohejffelipoaaGreatDoor
open Go Go.Abs Go.Abs.F
open Go.WideElems (Fit rd rg)
set_option linter.unusedVariables false
theorem qU {f:FuncId} {ts:List T} {σ τ:St} {t:T} (h:fc f ts σ=some (t,τ)) :
 f=29/\∃ i o own vs m es ks,ts=[Z (.ptr i o)]/\σ.get i=some (.cells own vs)/\vs[o+1]? = some (.map m)/\σ.get m=some (.map es)/\es.length<=1000/\ir es=some ks ∧
  ((ks=[]/\t=Z .ay/\τ=σ)\/(ks≠[]/\t=Z (.sl σ.size 0 ks.length (.grown 1))/\τ=σ.push (.cells false ((cC ks).map S.str)))):=by
 unfold fc at h
 split at h
 · cases h
 · rename_i hf
   refine ⟨Nat.eq_of_beq_eq_true hf,?_⟩
   split at h
   · rename_i i o
     split at h
     · rename_i own vs hi
       split at h
       · rename_i m hm
         split at h
         · rename_i es SY
           split at h
           · rename_i hl hk
             cases h
             exact ⟨i,o,own,vs,m,es,_,rfl,hi,hm,SY,Nat.le_of_ble_eq_true hl,hk,.inl ⟨rfl,rfl,rfl⟩⟩
           · rename_i k l hl hk
             cases h
             exact ⟨i,o,own,vs,m,es,_,rfl,hi,hm,SY,Nat.le_of_ble_eq_true hl,hk,.inr ⟨by simp,rfl,rfl⟩⟩
           · cases h
         · cases h
       · cases h
     · cases h
   · cases h
theorem JN {ι:bV} {w:World} {L:Abs.Loc} {es:List (S×V)} {ks:List (List UInt8)} (hb:dq ι L w (.map es)) (hk:ir es=some ks) (hl:es.length<=1000) :
 ∃ D0:DataW Unit,w.ownsMap Tryz.prog 9 (fun _=>some (.nil,[])) L.b 1000 D0/\(strKeys D0).Perm ks/\Maps.size D0<=1000:=by
 obtain ⟨fp,pH,h1,h2,h3,h4⟩:=hb
 obtain ⟨k1,k2,k3⟩:=vb hk
 have hlen:fp.size=es.length:=by rw [← Array.length_toList,← aA h2]
 have hkeys:fp.toList.map (·.key)=ks.map encStr:=by
  have:∀ {es:List (S×V)} {l:List MapEntry} {ks:List (List UInt8)},aT (fA ι) es l->es.map (·.1)=ks.map S.str->l.map (·.key)=ks.map encStr:=by
   intro es l ks h
   induction h generalizing ks with
   | nil=>intro e;cases ks with
     | nil=>rfl
     | cons _ _=>simp at e
   | cons a b ih =>
     intro e
     cases ks with
     | nil=>simp at e
     | cons k ks =>
       simp only [List.map_cons,List.cons.injEq] at e ⊢
       refine ⟨?_,ih e.2⟩
       have:=a.1
       rw [e.1] at this
       obtain ⟨s,hs,hl⟩:=this
       rw [hs]
       show Value.string s=Value.string ⟨k.toArray⟩
       rw [← hl]
  exact this h2 k1
 have Ta:∀ x∈fp.toList,∃ n,n∈ks/\x.key=encStr n/\rd (H:=Unit) Tryz.prog 9 (fun _=>some (.nil,[])) x=some (.string n,.nil):=by
  intro x hx
  have:x.key∈ks.map encStr:=by rw [← hkeys];exact List.mem_map_of_mem hx
  obtain ⟨n,hn,e⟩:=List.mem_map.1 this
  refine ⟨n,hn,e.symm,?_⟩
  unfold rd
  rw [← e,Go.WideMaps.keyOf_string_mk Tryz.underlying9 (by have:=k3 n hn;exact Nat.le_trans (by simpa [ByteArray.size] using this) (by decide))]
  simp
 refine ⟨_,⟨fp,pH,h1,⟨by rw [hlen];exact Nat.le_trans hl (by decide),⟨h4,?_,?_⟩,fun x hx => ?_⟩,by omega,rfl⟩,?_,?_⟩
 · rw [List.nodup_iff_pairwise_ne,List.pairwise_map]
   exact h3.imp fun h=>by omega
 · rw [hkeys]
   rw [List.nodup_iff_pairwise_ne,List.pairwise_map]
   exact (List.nodup_iff_pairwise_ne.1 k2).imp fun h e=>h (by simpa using e)
 · obtain ⟨n,_,_,h⟩:=Ta x hx
   exact ⟨_,h⟩
 · show (List.map (fun p:Lit×DataW Unit=>Go.strOf p.1) _).Perm ks
   refine ((WideShapes.sorted_perm _).map _).trans ?_
   rw [List.map_map]
   have:fp.toList.map ((fun p:Lit×DataW Unit=>Go.strOf p.1) ∘ rg (H:=Unit) Tryz.prog 9 (fun _=>some (.nil,[])))=ks:=by
    have e1:fp.toList.map ((fun p:Lit×DataW Unit=>Go.strOf p.1) ∘ rg (H:=Unit) Tryz.prog 9 (fun _=>some (.nil,[])))=fp.toList.map (fun x=>match x.key with | .string s=>s.data.toList | _=>[]):=by
     apply List.map_congr_left
     intro x hx
     obtain ⟨n,_,hn,h⟩:=Ta x hx
     simp [rg,h,hn,Go.strOf]
    rw [e1]
    have e2:fp.toList.map (fun x=>match x.key with | .string s=>s.data.toList | _=>[])=(fp.toList.map (·.key)).map (fun v=>match v with | .string s=>s.data.toList | _=>[]):=by rw [List.map_map];rfl
    rw [e2,hkeys,List.map_map]
    simp [Function.comp_def]
   rw [this]
 · show (List.foldr DataW.insert [] _).length<=1000
   rw [(WideShapes.sorted_perm _).length_eq,List.length_map,Array.length_toList]
   omega
theorem x8:aM Tryz.prog fc:=by
 constructor
 · intro f ts σ t τ h wf
   obtain ⟨_,i,o,own,vs,m,es,ks,_,_,_,_,_,_,h | h⟩:=qU h
   · obtain ⟨_,_,rfl⟩:=h
     exact ⟨wf,Nat.le_refl _⟩
   · obtain ⟨_,_,rfl⟩:=h
     exact ⟨St.bu wf _,by simp⟩
 · intro f ts σ t τ h wf ι w vs hR hF hA
   obtain ⟨rfl,i,o,own,cs,m,es,ks,rfl,hi,hm,SY,hl,hk,h⟩:=qU h
   cases hA with
   | cons a b =>
   cases b
   obtain ⟨L,hL,rfl⟩:=a
   obtain ⟨c,e,fz,h1,h2,h3,h4,h5⟩:=hR.blk i L _ hL hi
   obtain ⟨v,hv,hr⟩:=h4 (o+1) _ hm
   obtain ⟨M,hM,rfl⟩:=hr
   have hb:=hR.blk m M _ hM SY
   obtain ⟨D0,hown,hp,hs⟩:=JN hb hk hl
   have hc:w.cell? ⟨L.b,L.base+o+1,none⟩=some (.map (some M.b)):=by
    unfold World.cell?
    simp only [h1]
    rw [Nat.add_assoc]
    simpa using hv
   refine (Tryz.Ch L.b (L.base+o) M.b 1000 D0 _ w hc hown (Nat.le_trans hs (by decide)) (by omega)).mono ?_
   rintro e' u ⟨v,ss,rfl,YL,hrow,rI,mT⟩
   have Pj:=YL.trans hp
   have RC:ss.mergeSort (fun x y=>decide (x<=y))=cC ks:=by
    rw [← vc ks]
    exact mergeSort_of_perm Pj
   rw [RC] at hrow
   have hlen:=Pj.length_eq
   rcases h with ⟨rfl,rfl,rfl⟩ | ⟨hne,rfl,rfl⟩
   · have:ss=[]:=List.eq_nil_of_length_eq_zero (by simpa using hlen)
     refine ⟨ι,v,rfl,⟨Nat.le_refl _,fun _ _=>rfl,fun _ _ h=>h,fun _ _ h=>h,fun _ _ _=>rfl,fun i L h1 h2=>by omega,mT.os,mT.output,mT.size,fun k hk _=>mT.block k hk⟩,⟨fun i L b hi' hb' => ?_,hR.sep,hR.dP⟩,rI.2 this⟩
     have hB:=hR.blk i L b hi' hb'
     cases b with
     | dead=>trivial
     | cells own vs=>exact hB.congr (mT.block _ (hB.lt trivial))
     | map es=>exact hB.congr (mT.block _ (hB.lt trivial))
     | dP g vs=>exact hB.congr (mT.block _ (hB.lt trivial))
   · have UJ:ss≠[]:=fun e=>hne (by rw [e] at hlen;exact List.eq_nil_of_length_eq_zero (by simpa using hlen.symm))
     rcases hrow.2 with ⟨e,_⟩ | ⟨g,cap,cur,rfl,hg,zM,hle,hcap,hsz,lh⟩
     · exact absurd (rI.1 e) UJ
     have uK:(cC ks).length=ks.length:=(bC ks).length_eq
     let κ:bV:=fun j=>if j=σ.size then some ⟨g,0,cap,0⟩ else ι j
     have WI:ι.le κ:=by
      intro j M hj
      have:j≠σ.size:=fun e=>by rw [hF j (by omega) (by simp;omega)] at hj;cases hj
      simp [κ,this,hj]
     have zP:dq κ ⟨g,0,cap,0⟩ u (.cells false ((cC ks).map S.str)):=by
      refine ⟨cur,_,(0,0),zM,by rw [hsz,Nat.mul_one],by simp [uK,← hlen];exact hle,fun j x hx => ?_,fun e=>by cases e⟩
      rw [List.getElem?_map,Option.map_eq_some_iff] at hx
      obtain ⟨n,hn,rfl⟩:=hx
      have hj:j<(cC ks).length:=(List.getElem?_eq_some_iff.1 hn).1
      have e1:(cur.toList.take (ss.length*1))[j]? = some (encStr n):=by rw [lh,List.getElem?_map,hn];rfl
      rw [List.getElem?_take,if_pos (by omega),Array.getElem?_toList] at e1
      exact ⟨_,by simpa using e1,⟨_,rfl,by simp⟩⟩
     refine ⟨κ,_,rfl,?_,⟨fun j M b hj hb' => ?_,fun j k M N hj hk' sc hh hjk => ?_,fun j n vs hg => ?_⟩,?_⟩
     · refine ⟨by simp,fun j hj => ?_,fun j hj sc => ?_,fun j hj sc => ?_,fun j hj hn => ?_,fun j M h1 h2 hj _ => ?_,mT.os,mT.output,mT.size,fun k hk' _=>mT.block k hk'⟩
       · have:j≠σ.size:=by simp at hj;omega
         simp [κ,this]
       · rwa [St.aD _ _ (by omega)] at sc
       · rwa [St.aD _ _ (by omega)] at sc
       · rw [St.aD _ _ (by omega)]
       · have:j=σ.size:=by simp at h2;omega
         subst this
         simp [κ] at hj
         subst hj
         exact .inl hg
     · by_cases e:j=σ.size
       · subst e
         simp [κ] at hj
         subst hj
         rw [St.aq] at hb'
         cases hb'
         exact zP
       · simp [κ,e] at hj
         rw [St.aD _ _ e] at hb'
         have hB:=(hR.blk j M b hj hb').mono WI
         cases b with
         | dead=>trivial
         | cells own vs=>exact hB.congr (mT.block _ (hB.lt trivial))
         | map es=>exact hB.congr (mT.block _ (hB.lt trivial))
         | dP g vs=>exact hB.congr (mT.block _ (hB.lt trivial))
     · have old:∀ {j:Nat} {M:Abs.Loc},j≠σ.size->κ j=some M->held ((σ.push (.cells false ((cC ks).map S.str))).get j)->M.b<w.heap.size:=by
        intro j M e hj hh
        simp [κ,e] at hj
        rw [St.aD _ _ e] at hh
        cases XK:σ.get j with
        | none=>rw [XK] at hh;exact hh.elim
        | some b=>rw [XK] at hh;exact (hR.blk j M b hj XK).lt hh
       by_cases e1:j=σ.size
       · subst e1
         have iE:=old (fun e=>hjk e.symm) hk' hh
         simp [κ] at hj
         subst hj
         intro e
         have:g=N.b:=e
         omega
       · by_cases e2:k=σ.size
         · subst e2
           have iE:=old e1 hj sc.held
           simp [κ] at hk'
           subst hk'
           intro e
           have:M.b=g:=e
           omega
         · simp [κ,e1] at hj
           simp [κ,e2] at hk'
           rw [St.aD _ _ e1] at sc
           rw [St.aD _ _ e2] at hh
           exact hR.sep j k M N hj hk' sc hh hjk
     · by_cases e:j=σ.size
       · subst e
         rw [St.aq] at hg
         cases hg
       · rw [St.aD _ _ e] at hg
         obtain ⟨L,hL⟩:=hR.dP j n vs hg
         exact ⟨L,WI j L hL⟩
     · refine ⟨⟨g,0,cap,0⟩,cap,by simp [κ],?_,by rw [← hlen];exact hle,by simp⟩
       rw [hlen]
end Go.Proofs.YtbohejffelipoaaGreatDoor
namespace Go.Proofs.YtbohejffelipoaaGreatDoor
open Go Go.Abs Go.Abs.F
set_option linter.unusedVariables false
theorem As:aM Tryz.prog DQ:=by
 refine gm (gm (EZ ?_ ?_) (zW ?_ ?_)) (jl (gq kC 64 8) _)
 · intro f hf s c w
   have:f=247\/f=248:=by simpa [Ps] using hf
   rcases this with rfl | rfl
   · exact Tryz.strings_Index_one s c w
   · exact Tryz.stringslite_Index_one s c w
 · exact fun s c w=>Tryz.strings_Count_one s c w
 · exact fun a c sep w=>Tryz.strings_Join_none a c sep w
 · exact fun bk o c xs sep w h1 h2 h3 h4 h5=>Tryz.strings_Join bk o c xs sep w h1 h2 h3 h4 h5
theorem qZ:aM Tryz.prog JP:=gm x8 (gm (gm (jl (gq (jl (gq kC 64 8) _) 64 16) _) (gm EA pZ)) As)
set_option maxRecDepth 100000 in
theorem CV:zH true (eS Tryz.prog 64 JP 20 7 [] St.empty)=true:=by kernel_rfl
theorem CE:aM Tryz.prog dC:=gm (A7 (gq qZ 64 20) CV) qZ
end Go.Proofs.YtbohejffelipoaaGreatDoor
