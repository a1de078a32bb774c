/-
  Several texts in one: what functions that the law reaches compute. No conditions but those named in each line.
-/
import Derived.Test.YtbohejffelipoaaGreatDoorFnsC
import Derived.Test.YtbohejffelipoaaGreatDoorFnsA
import Derived.Test.YtbohejffelipoaaGreatDoorFnsB
namespace Go.Proofs.YtbohejffelipoaaGreatDoor
open Go Go.Abs Go.Abs.F
set_option linter.unusedVariables false
def dL:Bs:=[108,111,103]
set_option maxRecDepth 100000 in
theorem iq:uN dL:=fun d s=>Ah d s (iG rfl (by kernel_rfl) rfl)
def iJ (fs:List Fl) (l:List bA) (sure:Nat):Prop :=
 (∃ (k:Nat) (f:Fl),fs[k]? = some f/\f.nm=dL/\f.l=U (aF l)/\f.sure=cL l sure)\/((∀ f∈fs,f.nm≠dL)/\l=[]/\sure=0)
def Grown (fs fs':List Fl) (bs:Bs):Prop :=
 (∃ (k:Nat) (f:Fl) (x':S),fs[k]? = some f/\f.nm=dL/\fs'=fs.set k { f with x:=x',l:=f.l++U bs,sure:=f.sure })\/((∀ f∈fs,f.nm≠dL)/\∃ (fb:Nat) (x':S),fs'=fs++[⟨dL,fb,x',U bs,0⟩])
section
variable {ρ ρ':Nat->Nat} {s t:St} {D:mS} {room:Int} {fs fs':List Fl} {l:List bA} {q:FoS} {sure:Nat} {i m:Nat} {e:bA}
theorem aX.BO (h:aX ρ s D room fs l q sure) (hd:Dk t D.i D.m room fs') (hz:s.size<=t.size) (hk:∀ c,c<s.size->ρ c≠0->t.get c=s.get c)
 (hf:∀ f∈fs',(f.fb<s.size->ρ f.fb=0)/\∀ c,own f.x=some c->c<s.size->ρ c=0):aX (fun c=>if c<s.size then ρ c else 0) t D room fs' l q sure:=by
 obtain ⟨p1,p2,p3,p4,p5,p6⟩:=h.Bj
 obtain ⟨d1,d2,d3⟩:=h.dk.Bj
 have r:=h.ro
 have k:=fun c hc (n:Nat) (e:ρ c=n) (hn:n≠0)=>hk c hc (by omega)
 refine ⟨hd,by rw [k _ p1 1 r.p (by omega)];exact h.st,h.le.keep fun c hc=>k _ (p4 c hc) 4 (r.lx c hc) (by omega),h.en.keep fun c hc=>k _ (p5 c hc) 5 (r.ex c hc) (by omega),
  h.hf.qL (K':=fun _=>True) hd.wf (k _ p2 2 r.b (by omega)) (k _ p3 3 r.mp (by omega)) (fun c hc=>k _ (p6 c hc) 6 (r.qx c hc) (by omega)),?_,h.fo,h.wf,h.Dj,h.su⟩
 refine ⟨by rw [if_pos p1];exact r.p,by rw [if_pos p2];exact r.b,by rw [if_pos p3];exact r.mp,fun c hc=>by rw [if_pos (p4 c hc)];exact r.lx c hc,fun c hc=>by rw [if_pos (p5 c hc)];exact r.ex c hc,fun c hc=>by rw [if_pos (p6 c hc)];exact r.qx c hc,
  by rw [if_pos d1];exact r.i,by rw [if_pos d2];exact r.m,fun f Cb => ?_,fun f Cb c hc => ?_⟩
 · by_cases hlt:f.fb<s.size
   · rw [if_pos hlt];exact (hf f Cb).1 hlt
   · rw [if_neg hlt]
 · by_cases hlt:c<s.size
   · rw [if_pos hlt];exact (hf f Cb).2 c hc hlt
   · rw [if_neg hlt]
theorem sE {k:Nat} {f g x:Fl} (hk:fs[k]? = some f) (h:x∈fs.set k g):x=g\/x∈fs:=by
 rcases List.mem_or_eq_of_mem_set h with h | h
 · exact .inr h
 · exact .inl h
set_option maxHeartbeats 1000000 in
theorem xj (d:Nat) (h:aX ρ s D room fs l q sure) (oB:iJ fs l sure) (hn:nN fs) (hroom:(tot fs:Int)+(aZ (bj e)).length<=room) (hsz:(aF l).length<=40000) (he:bh q e=0) (hw:pb e) (hl:l.length<2000) :
 ∃ ρ' D' fs' t,R (d+13) 68 [Z (.ptr D.p 0),AE e] s=some (I .i64 0,t)/\aX ρ' t D' room fs' (l++[e]) (cN q e) sure/\iJ fs' (l++[e]) sure/\Grown fs fs' (aZ (bj e))/\s.size<=t.size/\(D'.p=D.p/\D'.i=D.i/\D'.m=D.m) ∧
   (∀ c,c<s.size->ρ' c=ρ c)/\∀ c,c<s.size->7<=ρ c->t.get c=s.get c:=by
 have hm:=dN he
 obtain ⟨p1,p2,p3,p4,p5,p6⟩:=h.Bj
 obtain ⟨d1,d2,d3⟩:=h.dk.Bj
 have r:=h.ro
 obtain ⟨s1,hs1⟩:∃ s1,s1=s.push (.cells true (cE e)):=⟨_,rfl⟩
 have cZ:aL s (cf (AE e))=some (Z (.ptr s.size 0),s1):=by rw [hs1];rfl
 have g1:Gr s s1:=by rw [hs1];exact Gr.push h.nK _
 have b1:s1.get s.size=some (.cells true (cE e)):=by rw [hs1];exact St.aq _ _
 have l1:=c7 (g:=s1.get) b1
 have z1:s1.size=s.size+1:=by rw [hs1];simp
 obtain ⟨y,s2,e2,g2,f2⟩:=pO (d+2) g1.wf e hw
 have uV:eH e=some (aZ (bj e)):=by unfold eH;rw [if_pos hm]
 have fb:=f2 _ uV
 have Pr:=iP uV
 rw [uV] at e2
 have b2:=g2.get b1 g1.wf
 have Ih:=g1.trans g2
 have z2:=g2.2.1
 obtain ⟨Bc,EW⟩:∃ Bc:Nat->Nat,Bc=fun c=>if c<s.size then ρ c else 9:=⟨_,rfl⟩
 have RO:∀ c,c<s.size->Bc c=ρ c:=fun c hc=>by rw [EW];exact if_pos hc
 have Y0:∀ c,s.size<=c->Bc c=9:=fun c hc=>by rw [EW];exact if_neg (by omega)
 have h2:aX Bc s2 D room fs l q sure:=(h.ZT RO).gr Ih
 have q0:ab (Z (.ptr D.p 0)) s2.get=some (Z (.ptr D.i 0)):=ai h2.st rfl
 have Dr:(U (aZ (bj e))).length=(aZ (bj e)).length:=by simp [U]
 have hy:yI s2 y (U (aZ (bj e))):=by
  have:=fb.rd
  rw [← Dr] at this
  exact this
 have yl:∀ c,own y=some c->s1.size<=c/\c<s2.size:=fb.new
 have r2:=h2.ro
 have step:∃ fs' s3,R (d+12) 12 [Z (.ptr D.i 0),Z (.str dL),Z y] s2=some (I .i64 0,s3)/\aX (fun c=>if c<s2.size then Bc c else 0) s3 D room fs' l q sure/\Grown fs fs' (aZ (bj e))/\iJ fs' (l++[e]) sure/\s2.size<=s3.size/\∀ c,c<s2.size->Bc c≠0->s3.get c=s2.get c:=by
  rcases oB with ⟨k,f,hk,hnm,hfl,SZ⟩ | ⟨hno,rfl,rfl⟩
  · have rH:=List.mem_of_getElem? hk
    have aaa:f.l.length=(aF l).length:=by rw [hfl];simp [U]
    obtain ⟨x',s3,e3,k3,z3,o3,n3⟩:=zq (d+9) h2.dk hn hk (by rw [hnm];exact iq) hy (fun c hc=>(yl c hc).2) (by rw [Dr];exact hroom) (by omega) (by omega)
    rw [hnm] at e3
    have kk:∀ c,c<s2.size->Bc c≠0->s3.get c=s2.get c:=fun c hc hr=>o3 c hc (fun e=>hr (by rw [e];exact r2.fb f rH)) (fun e=>hr (r2.fx f rH c e))
    refine ⟨_,s3,e3,h2.BO k3 z3 kk fun g hg => ?_,.inl ⟨k,f,x',hk,hnm,rfl⟩,.inl ⟨k,{ f with x:=x',l:=f.l++U (aZ (bj e)),sure:=f.sure },?_,hnm,?_,?_⟩,z3,kk⟩
    · rcases sE hk hg with rfl | hg
      · refine ⟨fun _=>r2.fb f rH,fun c hc hlt => ?_⟩
        rcases n3 with e | e | ⟨c',e,gO⟩
        · rw [e] at hc;cases hc
        · rw [e] at hc;exact r2.fx f rH c hc
        · rw [e] at hc;cases hc;omega
      · exact ⟨fun _=>r2.fb g hg,fun c hc _=>r2.fx g hg c hc⟩
    · rw [List.getElem?_set]
      have:=(List.getElem?_eq_some_iff.1 hk).1
      simp [this]
    · show f.l++U _=_
      rw [hfl,ij]
      simp [U]
    · show f.sure=_
      rw [SZ,jz _ _ h.su]
  · obtain ⟨x',TR,s3,e3,k3,z3,o3,n3,m3⟩:=qE (d+9) h2.dk hn hno iq hy (fun c hc=>(yl c hc).2) (fun e=>by have:=yl _ e;omega) (by rw [Dr];exact hroom) (by omega)
    have kk:∀ c,c<s2.size->Bc c≠0->s3.get c=s2.get c:=fun c hc hr=>o3 c hc (fun e=>hr (by rw [e];exact r2.m))
    refine ⟨_,s3,e3,h2.BO k3 z3 kk fun g hg => ?_,.inr ⟨hno,TR,x',rfl⟩,.inl ⟨fs.length,⟨dL,TR,x',U (aZ (bj e)),0⟩,by simp,rfl,?_,?_⟩,z3,kk⟩
    · rcases List.mem_append.1 hg with hg | hg
      · exact ⟨fun _=>r2.fb g hg,fun c hc _=>r2.fx g hg c hc⟩
      · rw [List.mem_singleton] at hg
        subst hg
        exact ⟨fun hlt=>by have:TR<s2.size:=hlt;omega,fun c hc hlt=>by have:=m3 c hc;omega⟩
    · show U _=U _
      simp [aF]
    · show 0=_
      rw [me]
 obtain ⟨fs',s3,e3,h3,hg,zN,z3,k3⟩:=step
 have b3:s3.get s.size=some (.cells true (cE e)):=by rw [k3 _ (by omega) (by rw [Y0 _ (Nat.le_refl _)];decide)];exact b2
 have l3:=c7 (g:=s3.get) b3
 obtain ⟨ρ',D',t,e4,h4,z4,hD,YY,k4⟩:=Ak (d+1) h3 he hw hl
 have Y1:∀ c,c<s.size->ρ' c=ρ c:=fun c hc=>by rw [YY c (by omega),if_pos (by omega),RO c hc]
 refine ⟨ρ',D',fs',t,?_,h4,zN,hg,by omega,hD,Y1,fun c hc hr => ?_⟩
 · rw [Dh]
   unfold f68
   simp only [Nat.add_assoc,Nat.reduceAdd] at e2 e4
   rw [show dL=[108,111,103] from rfl] at e3
   generalize R (d+12)=rr at *
   simp [cZ,l1,e2,ah,q0,e3,l3,e4]
 · have hc1:Bc c=ρ c:=RO c hc
   rw [k4 c (by omega) (by rw [if_pos (by omega),hc1];exact .inr hr),k3 c (by omega) (by omega),Ih.2.2 c hc]
theorem nT (d:Nat) (h:aX ρ s D room fs l q sure) (hl:l.length<2000) (e:bA):∃ t,R (d+10) 67 [Z (.ptr D.p 0),AE e] s=some (I .i64 (bh q e),t)/\Gr s t:=by
 obtain ⟨hall,hok,cW⟩:=h.ok
 obtain ⟨s1,hs1⟩:∃ s1,s1=s.push (.cells true (cE e)):=⟨_,rfl⟩
 have cZ:aL s (cf (AE e))=some (Z (.ptr s.size 0),s1):=by rw [hs1];rfl
 have g1:Gr s s1:=by rw [hs1];exact Gr.push h.nK _
 have b1:s1.get s.size=some (.cells true (cE e)):=by rw [hs1];exact St.aq _ _
 have l1:=c7 (g:=s1.get) b1
 have h1:=h.gr g1
 have q3:ab (Z (.ptr D.p 3)) s1.get=some (Z (.ptr D.b 0)):=ai h1.st rfl
 obtain ⟨t,e2,g2⟩:=uC d h1.hf hok (by have:=hok.len;omega) e
 have h2:=h1.gr g2
 have q1:ab (Z (.ptr D.p 1)) t.get=some (Z D.lx):=ai h2.st rfl
 have ll:=h2.le.rd.lens
 have c0:¬ (l.length:Int)=2000:=by omega
 refine ⟨t,?_,g1.trans g2⟩
 rw [MQ]
 unfold f67
 generalize R (d+9)=rr at *
 generalize (l.length:Int)=LL at *
 by_cases hz:bh q e=0
 · rw [hz] at e2 ⊢
   simp [cZ,l1,q3,e2,q1,ll,c0]
 · generalize bh q e=A at *
   simp [cZ,l1,q3,e2,hz]
set_option maxHeartbeats 1000000 in
theorem JU (d:Nat) (h:aX ρ s D room fs l q sure) (oB:iJ fs l sure) (hn:nN fs) (hroom:(tot fs:Int)+(aZ (bj e)).length<=room) (hsz:(aF l).length<=40000) (he:bh q e=0) (hw:pb e) (hl:l.length<2000) (jb:e.k≠1) (hk2:e.k≠2) :
 ∃ ρ' D' fs' t,R (d+14) 18 [Z (.ptr D.p 0),AE e] s=some (I .i64 0,t)/\aX ρ' t D' room fs' (l++[e]) (cN q e) sure/\iJ fs' (l++[e]) sure/\Grown fs fs' (aZ (bj e))/\s.size<=t.size/\(D'.p=D.p/\D'.i=D.i/\D'.m=D.m) ∧
   (∀ c,c<s.size->ρ' c=ρ c)/\∀ c,c<s.size->7<=ρ c->t.get c=s.get c:=by
 obtain ⟨s1,hs1⟩:∃ s1,s1=s.push (.cells true (cE e)):=⟨_,rfl⟩
 have cZ:aL s (cf (AE e))=some (Z (.ptr s.size 0),s1):=by rw [hs1];rfl
 have g1:Gr s s1:=by rw [hs1];exact Gr.push h.nK _
 have b1:s1.get s.size=some (.cells true (cE e)):=by rw [hs1];exact St.aq _ _
 have l1:=c7 (g:=s1.get) b1
 have h1:=h.gr g1
 obtain ⟨s2,e2,g2⟩:=nT (d+3) h1 hl e
 rw [he] at e2
 have h2:=h1.gr g2
 have b2:=g2.get b1 g1.wf
 have l2:=c7 (g:=s2.get) b2
 have k2:ab (Z (.ptr s.size 0)) s2.get=some (I .i64 e.k):=ai b2 rfl
 obtain ⟨ρ',D',fs',t,e3,h3,zN,hg,z3,hD,hρ,k3⟩:=xj d h2 oB hn hroom hsz he hw hl
 have Ih:=g1.trans g2
 have z02:=Ih.2.1
 have np:fT .p (Z (.ptr D.p 0)) (Z .bL)=some (B false):=rfl
 refine ⟨ρ',D',fs',t,?_,h3,zN,hg,by omega,hD,fun c hc=>hρ c (by omega),fun c hc hr=>by rw [k3 c (by omega) hr,Ih.2.2 c hc]⟩
 rw [Db]
 unfold f18
 simp only [Nat.add_assoc,Nat.reduceAdd] at e2
 generalize R (d+13)=rr at *
 simp [cZ,np,l1,e2,k2,jb,hk2,l2,e3]
end
section
variable {ρ ρ':Nat->Nat} {s t:St} {D:mS} {room:Int} {fs fs':List Fl} {l:List bA} {q:FoS} {sure:Nat} {i m:Nat} {e:bA}
theorem tj (d:Nat) (h:Dk s i m room fs) {nm:List UInt8} (hno:∀ g∈fs,g.nm≠nm) (hm:uN nm):R (d+3) 47 [Z (.ptr i 0),Z (.str nm)] s=some (I .i64 9,s):=by
 rw [Df]
 unfold f47
 have e1:=gh d h hno hm
 generalize R (d+2)=r at e1 ⊢
 simp [e1,ah]
def Bw (fs fs':List Fl):Prop :=
 (∃ (k:Nat) (f:Fl),fs[k]? = some f/\f.nm=dL/\fs'=fs.set k { f with x:=f.x,l:=f.l,sure:=f.l.length })\/((∀ f∈fs,f.nm≠dL)/\fs'=fs)
theorem aX.DX (h:aX ρ s D room fs l q sure) {n:Nat} (hn:n<=l.length):aX ρ (s.set D.p (.cells true (yK D.i D.b D.lx D.ex n))) D room fs l q n:=by
 obtain ⟨p1,p2,p3,p4,p5,p6⟩:=h.Bj
 obtain ⟨d1,d2,d3⟩:=h.dk.Bj
 have r:=h.ro
 have k:∀ c (j:Nat),ρ c=j->j≠1->(s.set D.p (.cells true (yK D.i D.b D.lx D.ex n))).get c=s.get c:=fun c j e hj=>St.aj _ _ fun e'=>by
  rw [e',r.p] at e
  exact hj e.symm
 have wf:(s.set D.p (.cells true (yK D.i D.b D.lx D.ex n))).wf:=St.wf_set h.nK p1 _
 exact ⟨h.dk.qL wf (by simp) (k _ 0 r.i (by decide)) (k _ 0 r.m (by decide)) (fun f hf=>⟨k _ 0 (r.fb f hf) (by decide),fun c hc=>k _ 0 (r.fx f hf c hc) (by decide)⟩),St.ar _ _ _,
  h.le.keep fun c hc=>k _ 4 (r.lx c hc) (by decide),h.en.keep fun c hc=>k _ 5 (r.ex c hc) (by decide),h.hf.qL (K':=fun _=>True) wf (k _ 2 r.b (by decide)) (k _ 3 r.mp (by decide)) (fun c hc=>k _ 6 (r.qx c hc) (by decide)),r,h.fo,h.wf,h.Dj,hn⟩
theorem AY (d:Nat) (h:aX ρ s D room fs l q sure) (oB:iJ fs l sure) :
 ∃ ρ' fs' t,R (d+4) 19 [Z (.ptr D.p 0)] s=some (I .i64 0,t)/\aX ρ' t D room fs' l q l.length/\iJ fs' l l.length/\Bw fs fs'/\s.size<=t.size/\(∀ c,c<s.size->ρ' c=ρ c)/\∀ c,c<s.size->7<=ρ c->t.get c=s.get c:=by
 have r:=h.ro
 have p1:=h.Bj.1
 have q0:ab (Z (.ptr D.p 0)) s.get=some (Z (.ptr D.i 0)):=ai h.st rfl
 have np:fT .p (Z (.ptr D.p 0)) (Z .bL)=some (B false):=rfl
 have step:∃ ρ' fs' s1 c,R (d+3) 47 [Z (.ptr D.i 0),Z (.str dL)] s=some (I .i64 c,s1)/\aX ρ' s1 D room fs' l q sure/\iJ fs' l l.length/\Bw fs fs'/\s.size<=s1.size/\(∀ c,c<s.size->ρ' c=ρ c)/\∀ c,c<s.size->7<=ρ c->s1.get c=s.get c:=by
  rcases oB with ⟨k,f,hk,hnm,hfl,SZ⟩ | ⟨hno,rfl,rfl⟩
  · have rH:=List.mem_of_getElem? hk
    obtain ⟨s1,e1,k1,z1,o1⟩:=vB d h.dk hk (by rw [hnm];exact iq)
    rw [hnm] at e1
    refine ⟨_,_,s1,0,e1,h.BO k1 z1 (fun c hc hr=>o1 c fun e=>hr (by rw [e];exact r.fb f rH)) fun g hg => ?_,.inl ⟨k,{ f with x:=f.x,l:=f.l,sure:=f.l.length },?_,hnm,hfl,?_⟩,.inl ⟨k,f,hk,hnm,rfl⟩,z1,fun c hc=>if_pos hc,fun c hc hr=>o1 c fun e=>by rw [e,r.fb f rH] at hr;omega⟩
    · rcases sE hk hg with rfl | hg
      · exact ⟨fun _=>r.fb f rH,fun c hc _=>r.fx f rH c hc⟩
      · exact ⟨fun _=>r.fb g hg,fun c hc _=>r.fx g hg c hc⟩
    · rw [List.getElem?_set]
      have:=(List.getElem?_eq_some_iff.1 hk).1
      simp [this]
    · show f.l.length=_
      rw [dK,hfl]
      simp [U]
  · exact ⟨ρ,fs,s,9,tj d h.dk hno iq,h,.inr ⟨hno,rfl,rfl⟩,.inr ⟨hno,rfl⟩,Nat.le_refl _,fun _ _=>rfl,fun _ _ _=>rfl⟩
 obtain ⟨ρ',fs',s1,C,e1,h1,zN,hS,z1,hρ,k1⟩:=step
 have q1:ab (Z (.ptr D.p 1)) s1.get=some (Z D.lx):=ai h1.st rfl
 have ll:=h1.le.rd.lens
 have st:aw 1 (Z (.ptr D.p 4)) (I .i64 (l.length:Nat)) s1=some (tt,s1.set D.p (.cells true (yK D.i D.b D.lx D.ex l.length))):=aW h1.st (by simp)
 refine ⟨ρ',fs',_,?_,h1.DX (Nat.le_refl _),zN,hS,by simpa using z1,hρ,fun c hc hr => ?_⟩
 · rw [Mk]
   unfold f19
   rw [show dL=[108,111,103] from rfl] at e1
   generalize R (d+3)=rr at *
   generalize (l.length:Int)=LL at *
   simp [np,q0,e1,q1,ll,st]
 · rw [St.aj _ _ (fun e=>by rw [e,r.p] at hr;omega)]
   exact k1 c hc hr
theorem AX (d:Nat) (h:aX ρ s D room fs l q sure):R (d+1) 24 [Z (.ptr D.p 0)] s=some (I .i64 sure,s):=by
 have q4:ab (Z (.ptr D.p 4)) s.get=some (I .i64 sure):=ai h.st rfl
 have np:fT .p (Z (.ptr D.p 0)) (Z .bL)=some (B false):=rfl
 rw [Mw]
 unfold f24
 simp [np,q4]
theorem lH (d:Nat) (h:aX ρ s D room fs l q sure):∃ y t,R (d+2) 23 [Z (.ptr D.p 0)] s=some (Z y,t)/\Fr 8 s t y l.length (cells cE l):=by
 have np:fT .p (Z (.ptr D.p 0)) (Z .bL)=some (B false):=rfl
 have q1:ab (Z (.ptr D.p 1)) s.get=some (Z D.lx):=ai h.st rfl
 have jy:=dS (e:=8) GW l
 have hlt:=h.Bj.2.2.2.1
 have Dj:=h.Dj
 have cl:∃ y t,R (d+1) 78 [Z D.lx] s=some (Z y,t)/\Fr 8 s t y l.length (cells cE l):=by
  rw [MZ]
  unfold f78
  have go:fT .l (Z D.lx) (Z .ay)=some (B false)->∃ y t,(bd (fT .l (Z D.lx) (Z .ay)) fun t4=>br t4 (some ((Z .ay),s)) (ax (aL s (aS 0 (aG [] []))) fun t5 s1=>ax (aJ 8 72 t5 (Z D.lx) s1) fun t7 s2=>some (t7,s2)))=some (Z y,t)/\Fr 8 s t y l.length (cells cE l):=by
   intro e
   have f0:=Fr.lit 8 h.nK (n:=0) (vs:=[]) rfl
   have nw:aL s (aS 0 (aG [] []))=some (Z (.sl s.size 0 0 (.known 0)),s.push (.cells true [])):=by simp [aL,aS,aG]
   obtain ⟨y,t,ap,f,_⟩:=f0.append (by_:=72) (by omega) (h.le.rd.gr hlt f0.gr).src jy (by omega)
   simp only [Nat.zero_add,List.nil_append] at f
   exact ⟨y,t,by simp [e,nw,ap],f⟩
  rcases h.le.ow with ⟨hx,hz⟩ | ⟨c,rows,hx,hz,_⟩ | ⟨c,rows,cap,hx,hc,_⟩
  · have hl:l=[]:=List.eq_nil_of_length_eq_zero hz
    rw [hx]
    have e:fT .l (Z .ay) (Z .ay)=some (B true):=rfl
    refine ⟨.ay,s,by simp [e],?_⟩
    rw [hl]
    exact Fr.nil 8 h.nK
  · exact go (by rw [hx];rfl)
  · exact go (by rw [hx];rcases hc with rfl | rfl<;>rfl)
 obtain ⟨y,t,e1,f1⟩:=cl
 refine ⟨y,t,?_,f1⟩
 rw [Mv]
 unfold f23
 generalize R (d+1)=rr at *
 simp [np,q1,e1]
end
structure FV where
 nm:Bs
 l:List S
 sure:Nat
def vw (f:Fl):FV:=⟨f.nm,f.l,f.sure⟩
abbrev cu (fs:List Fl):List FV:=fs.map vw
def jD (n:Bs) (g:FV->FV) (vs:List FV):List FV:=vs.map fun v=>if v.nm=n then g v else v
def ik (n:Bs) (vs:List FV):Bool:=vs.any fun v=>v.nm == n
def ei (bs:Bs) (vs:List FV):List FV:=if ik dL vs=true then jD dL (fun v=>⟨v.nm,v.l++U bs,v.sure⟩) vs else vs++[⟨dL,U bs,0⟩]
def fN (n:Bs) (vs:List FV):List FV:=jD n (fun v=>⟨v.nm,v.l,v.l.length⟩) vs
def Ex (n:Bs) (k:Nat) (vs:List FV):List FV:=jD n (fun v=>⟨v.nm,v.l.take k,min v.sure k⟩) vs
def qn (n:Bs) (vs:List FV):List FV:=vs.filter fun v => !(v.nm == n)
theorem iQ {n:Bs} {vs:List FV}:ik n vs=true↔∃ v∈vs,v.nm=n:=by
 unfold ik
 rw [List.any_eq_true]
 simp
theorem fG {n:Bs} {vs:List FV}:ik n vs=false↔∀ v∈vs,v.nm≠n:=by
 rw [← Bool.not_eq_true,iQ]
 constructor
 · intro h v hv e
   exact h ⟨v,hv,e⟩
 · rintro h ⟨v,hv,e⟩
   exact h v hv e
theorem sG {n:Bs} {g:FV->FV} {vs:List FV} (h:∀ v∈vs,v.nm≠n):jD n g vs=vs:=by
 unfold jD
 rw [List.map_congr_left (g:=id) fun v hv=>by simp [h v hv]]
 simp
theorem kK {n:Bs} {g:FV->FV} (hg:∀ v,(g v).nm=v.nm) (vs:List FV):(jD n g vs).map (·.nm)=vs.map (·.nm):=by
 unfold jD
 rw [List.map_map]
 apply List.map_congr_left
 intro v _
 simp only [Function.comp]
 split
 · exact hg v
 · rfl
section
variable {fs fs':List Fl}
theorem w9 (fs:List Fl):(cu fs).map (·.nm)=fs.map (·.nm):=by
 unfold cu
 rw [List.map_map];rfl
theorem sJ (hn:(fs.map (·.nm)).Nodup) {k:Nat} {f f':Fl} (hk:fs[k]? = some f) (g:FV->FV) (hg:vw f'=g (vw f)):cu (fs.set k f')=jD f.nm g (cu fs):=by
 apply List.ext_getElem?
 intro j
 unfold jD cu
 rw [List.getElem?_map,List.getElem?_set,List.getElem?_map,List.getElem?_map]
 by_cases hj:k=j
 · subst hj
   have hl:=(List.getElem?_eq_some_iff.1 hk).1
   rw [if_pos rfl,if_pos hl,hk]
   have vI:=hg
   simp [vw] at vI ⊢
   exact vI
 · rw [if_neg hj]
   cases hx:fs[j]? with
   | none=>rfl
   | some x =>
     have hne:x.nm≠f.nm:=fun e=>hj ((List.getElem?_inj (by rw [List.length_map];exact (List.getElem?_eq_some_iff.1 hk).1) hn).1 (by rw [List.getElem?_map,List.getElem?_map,hk,hx];simp [e]))
     simp [vw,hne]
theorem FR (hn:(fs.map (·.nm)).Nodup) {k:Nat} {f:Fl} (hk:fs[k]? = some f):cu (fs.eraseIdx k)=qn f.nm (cu fs):=by
 induction fs generalizing k with
 | nil=>simp at hk
 | cons a r ih =>
   rw [List.map_cons,List.nodup_cons] at hn
   cases k with
   | zero =>
     simp at hk
     subst hk
     have h1:∀ v∈cu r,v.nm≠a.nm:=fun v hv e=>hn.1 (by
      rw [← e,← w9]
      exact List.mem_map_of_mem hv)
     simp only [List.eraseIdx_cons_zero]
     unfold qn
     have h2:cu (a::r)=vw a::cu r:=rfl
     rw [h2,List.filter_cons]
     simp only [vw,beq_self_eq_true,Bool.not_true,Bool.false_eq_true,if_false]
     rw [List.filter_eq_self.2 fun v hv=>by simpa using h1 v hv]
   | succ k =>
     simp at hk
     have hne:a.nm≠f.nm:=fun e=>hn.1 (by rw [e];exact List.mem_map_of_mem (List.mem_of_getElem? hk))
     have h2:cu (a::r)=vw a::cu r:=rfl
     have h3:cu ((a::r).eraseIdx (k+1))=vw a::cu (r.eraseIdx k):=rfl
     rw [h3,h2,ih hn.2 hk]
     unfold qn
     rw [List.filter_cons]
     simp [vw,hne]
theorem qv (hn:(fs.map (·.nm)).Nodup) {bs:Bs} (g:Grown fs fs' bs):cu fs'=ei bs (cu fs):=by
 rcases g with ⟨k,f,x',hk,hnm,rfl⟩ | ⟨hno,fb,x',rfl⟩
 · have h1:ik dL (cu fs)=true:=iQ.2 ⟨vw f,List.mem_map_of_mem (List.mem_of_getElem? hk),hnm⟩
   unfold ei
   rw [if_pos h1,← hnm]
   exact sJ hn hk _ rfl
 · have h1:ik dL (cu fs)=false:=fG.2 fun v hv e=>by
    obtain ⟨f,hf,rfl⟩:=List.mem_map.1 hv
    exact hno f hf e
   unfold ei
   rw [h1]
   simp [cu,vw]
theorem uG (hn:(fs.map (·.nm)).Nodup) (g:Bw fs fs'):cu fs'=fN dL (cu fs):=by
 rcases g with ⟨k,f,hk,hnm,rfl⟩ | ⟨hno,rfl⟩
 · rw [← hnm]
   exact sJ hn hk _ rfl
 · unfold fN
   rw [sG]
   intro v hv e
   obtain ⟨f,hf,rfl⟩:=List.mem_map.1 hv
   exact hno f hf e
def jC (vs:List FV):Nat:=(vs.map (·.l.length)).sum
theorem kJ (fs:List Fl):tot fs=jC (cu fs):=by
 unfold tot jC cu
 rw [List.map_map];rfl
def Eb (vs:List FV) (l:List bA) (sure:Nat):Prop:=(∃ v∈vs,v.nm=dL/\v.l=U (aF l)/\v.sure=cL l sure)\/((∀ v∈vs,v.nm≠dL)/\l=[]/\sure=0)
theorem mD {l:List bA} {sure:Nat}:iJ fs l sure↔Eb (cu fs) l sure:=by
 constructor
 · rintro (⟨k,f,hk,h1,h2,h3⟩ | ⟨h1,h2,h3⟩)
   · exact .inl ⟨vw f,List.mem_map_of_mem (List.mem_of_getElem? hk),h1,h2,h3⟩
   · exact .inr ⟨fun v hv=>by obtain ⟨f,hf,rfl⟩:=List.mem_map.1 hv;exact h1 f hf,h2,h3⟩
 · rintro (⟨v,hv,h1,h2,h3⟩ | ⟨h1,h2,h3⟩)
   · obtain ⟨f,hf,rfl⟩:=List.mem_map.1 hv
     obtain ⟨k,hk⟩:=List.getElem?_of_mem hf
     exact .inl ⟨k,f,hk,h1,h2,h3⟩
   · exact .inr ⟨fun f hf=>h1 (vw f) (List.mem_map_of_mem hf),h2,h3⟩
theorem jQ {n:Bs} (h:ik n (cu fs)=true):∃ (k:Nat) (f:Fl),fs[k]? = some f/\f.nm=n:=by
 obtain ⟨v,hv,e⟩:=iQ.1 h
 obtain ⟨f,hf,rfl⟩:=List.mem_map.1 hv
 obtain ⟨k,hk⟩:=List.getElem?_of_mem hf
 exact ⟨k,f,hk,e⟩
theorem ji {n:Bs} (h:ik n (cu fs)=false):∀ f∈fs,f.nm≠n:=fun f hf=>fG.1 h (vw f) (List.mem_map_of_mem hf)
end
section
variable {ρ ρ':Nat->Nat} {s t s6 u:St} {D:mS} {room:Int} {fs fs':List Fl} {l es:List bA} {q:FoS} {sure:Nat} {i m:Nat} {e:bA} {y:S} {v0:T}
theorem E7 (d:Nat) (h:aX ρ s6 D room fs [] lL 0) (hy:RE s6 y es) (Dz:∀ c,own y=some c->c<s6.size/\7<=ρ c) (hw:∀ e∈es,pb e) (hf:bf lL es=(0,q)) (hl:es.length<=2000) :
 ∃ ρ' D' t,loops (tu (R (d+12)) 8192) 8192 [v0,Z (.ptr D.p 0),Z y,I .i64 es.length,I .i64 0] s6=some (.exit 0 [v0,Z (.ptr D.p 0)],t)/\aX ρ' t D' room fs es q 0/\s6.size<=t.size/\(D'.p=D.p/\D'.i=D.i/\D'.m=D.m) ∧
   (∀ c,c<s6.size->ρ' c=ρ c)/\∀ c,c<s6.size->(ρ c=0\/7<=ρ c)->t.get c=s6.get c:=by
 obtain ⟨j,t,lp,rfl,It⟩:=aV (f:=tu (R (d+12)) 8192)
  (fun f v u=>∃ (k:Nat) (ρ':Nat->Nat) (D':mS) (qk:FoS),f+k=es.length/\v=[v0,Z (.ptr D.p 0),Z y,I .i64 es.length,I .i64 k]/\aX ρ' u D' room fs (es.take k) qk 0/\bf qk (es.drop k)=(0,q)/\s6.size<=u.size/\(D'.p=D.p/\D'.i=D.i/\D'.m=D.m) ∧
   (∀ c,c<s6.size->ρ' c=ρ c)/\∀ c,c<s6.size->(ρ c=0\/7<=ρ c)->u.get c=s6.get c)
  (fun j u=>j = .exit 0 [v0,Z (.ptr D.p 0)]/\∃ (ρ':Nat->Nat) (D':mS),aX ρ' u D' room fs es q 0/\s6.size<=u.size/\(D'.p=D.p/\D'.i=D.i/\D'.m=D.m) ∧
   (∀ c,c<s6.size->ρ' c=ρ c)/\∀ c,c<s6.size->(ρ c=0\/7<=ρ c)->u.get c=s6.get c) (by
  rintro f v u ⟨k,ρ',D',qk,hk,rfl,H,oA,hz,⟨hp,hi,hm⟩,hρ,hkeep⟩
  by_cases eZ:k<es.length
  · left
    have hc:es[k]? = some es[k]:=List.getElem?_eq_getElem eZ
    obtain ⟨e,he⟩:∃ e,e=es[k]:=⟨_,rfl⟩
    rw [← he] at hc
    have m6:es.drop k=e::es.drop (k+1):=by rw [List.drop_eq_getElem_cons eZ,he]
    rw [m6] at oA
    have ha:bh qk e=0:=by
     by_cases h0:bh qk e=0
     · exact h0
     · simp only [bf,if_neg h0] at oA
       injection oA with h1 h2
    have uW:bf (cN qk e) (es.drop (k+1))=(0,q):=by
     simpa only [bf,if_pos ha] using oA
    have WE:RE u y es:=hy.keep fun c hc=>hkeep c (Dz c hc).1 (.inr (Dz c hc).2)
    obtain ⟨p,ix,ld⟩:=WE.VR (n:=((k:Nat):Int)) rfl hc
    have c0:((k:Nat):Int)<((es.length:Nat):Int):=by omega
    have w1:IntKind.i64.wrap ((k:Int)+1)=((k+1:Nat):Int):=by rw [aE _ (by omega) (by omega)];omega
    obtain ⟨u1,Pp⟩:∃ u1,u1=u.push (.cells true (cE bE)):=⟨_,rfl⟩
    have Cs:aL u (bb [.int .i64 0,.int .i64 0,.int .i64 0,.int .i64 0,.int .i64 0,.int .i64 0,.int .u32 0,.str []])=some (Z (.ptr u.size 0),u1):=by rw [Pp];rfl
    have b1:u1.get u.size=some (.cells true (cE bE)):=by rw [Pp];exact St.aq _ _
    have Ni:Gr u u1:=by rw [Pp];exact Gr.push H.nK _
    obtain ⟨u2,zS⟩:∃ u2,u2=u1.set u.size (.cells true (cE e)):=⟨_,rfl⟩
    have yU:aw 8 (Z (.ptr u.size 0)) (AE e) u1=some (tt,u2):=by rw [zS];exact jB b1 rfl
    have TX:Gr u u2:=by
     rw [zS]
     exact ⟨St.wf_set Ni.wf (Ni.wf.lt b1) _,by simpa using Ni.2.1,fun c hc=>by rw [St.aj _ _ (by omega)];exact Ni.2.2 c hc⟩
    have l2:aH 8 (Z (.ptr u.size 0)) u2.get=some (AE e):=c7 (by rw [zS];exact St.ar _ _ _)
    have UM:(es.take k).length=k:=by rw [List.length_take];omega
    obtain ⟨Z9,D2,u3,e3,H3,z3,⟨YA,hi3,S6⟩,YZ,k3⟩:=Ak (d+1) (H.gr TX) ha (hw e (List.mem_of_getElem? hc)) (by omega)
    rw [hp] at e3
    have z2:=TX.2.1
    have lh:es.take k++[e]=es.take (k+1):=by rw [List.take_add_one,hc];rfl
    rw [lh] at H3
    refine ⟨[v0,Z (.ptr D.p 0),Z y,I .i64 es.length,I .i64 ((k+1:Nat):Int)],u3,f-1,?_,by omega,k+1,Z9,D2,cN qk e,by omega,rfl,H3,uW,by omega,⟨YA.trans hp,hi3.trans hi,S6.trans hm⟩,fun c hc=>by rw [YZ c (by omega),hρ c hc],fun c hc hr => ?_⟩
    · unfold tu
      simp only [Nat.add_assoc,Nat.reduceAdd] at e3
      clear oA uW m6
      generalize R (d+12)=r at *
      generalize ((k+1:Nat):Int)=K1 at *
      generalize ((k:Nat):Int)=K at *
      generalize ((es.length:Nat):Int)=LL at *
      generalize u.size=us at *
      simp [c0,ix,ld,Cs,yU,l2,e3,w1]
    · rw [k3 c (by omega) (by rw [hρ c hc];exact hr),TX.2.2 c (by omega)]
      exact hkeep c hc hr
  · right
    have c0:¬ ((k:Nat):Int)<((es.length:Nat):Int):=by omega
    have Nq:k=es.length:=by omega
    subst Nq
    rw [List.take_length] at H
    rw [List.drop_length] at oA
    have hq:qk=q:=by simp only [bf] at oA;injection oA
    refine ⟨_,u,?_,(fun v hv=>by cases hv),rfl,ρ',D',by rw [← hq];exact H,hz,⟨hp,hi,hm⟩,hρ,hkeep⟩
    unfold tu
    generalize ((es.length:Nat):Int)=LL at *
    simp [c0]) 8192 es.length [v0,Z (.ptr D.p 0),Z y,I .i64 es.length,I .i64 0] s6
  ⟨0,ρ,D,lL,by omega,rfl,by simpa using h,by simpa using hf,Nat.le_refl _,⟨rfl,rfl,rfl⟩,fun _ _=>rfl,fun _ _ _=>rfl⟩ (by omega)
 obtain ⟨ρ',D',a1,a2,a3,a4,a5⟩:=It
 exact ⟨ρ',D',t,lp,a1,a2,a3,a4,a5⟩
end
section
variable {ρ ρ':Nat->Nat} {s t:St} {D:mS} {room:Int} {fs fs':List Fl} {l es:List bA} {q:FoS} {sure:Nat} {i m:Nat} {e:bA} {y:S} {v0 v1:T} {bs:Bs}
theorem Ez (d:Nat) (h:Dk s i m room fs) {nm:List UInt8} (hno:∀ g∈fs,g.nm≠nm) (hm:uN nm) (n:Int):R (d+3) 45 [Z (.ptr i 0),Z (.str nm),I .i64 n] s=some (I .i64 9,s):=by
 rw [De]
 unfold f45
 have e1:=gh d h hno hm
 generalize R (d+2)=r at e1 ⊢
 simp [e1,ah]
def gy (fs:List Fl) (bs:Bs):Prop:=(fs=[]/\bs=[])\/∃ f,fs=[f]/\f.nm=dL/\f.l=U bs
set_option maxRecDepth 100000 in
theorem RP (d:Nat):R (d+1) 52 [Z (.str dL)] s=some (I .i64 0,s):=oO d s (by decide) (iG rfl (by kernel_rfl) rfl)
end
section
variable {ρ ρ':Nat->Nat} {s t:St} {D:mS} {room:Int} {fs fs':List Fl} {l es:List bA} {q:FoS} {sure:Nat} {i m:Nat} {e:bA} {y:S} {v0 v1:T} {bs:Bs}
end
structure Kp (ρ ρ':Nat->Nat) (s t:St):Prop where
 sz:s.size<=t.size
 ro:∀ c,c<s.size->ρ' c=ρ c
 kp:∀ c,c<s.size->ρ c≠0->t.get c=s.get c
theorem Kp.refl (ρ:Nat->Nat) (s:St):Kp ρ ρ s s:=⟨Nat.le_refl _,fun _ _=>rfl,fun _ _ _=>rfl⟩
theorem Kp.trans {ρ ρ' ρ'':Nat->Nat} {s t u:St} (h:Kp ρ ρ' s t) (k:Kp ρ' ρ'' t u):Kp ρ ρ'' s u :=
 ⟨Nat.le_trans h.sz k.sz,fun c hc=>by rw [k.ro c (Nat.lt_of_lt_of_le hc h.sz),h.ro c hc],fun c hc hr=>by rw [k.kp c (Nat.lt_of_lt_of_le hc h.sz) (by rw [h.ro c hc];exact hr),h.kp c hc hr]⟩
section
variable {ρ ρ':Nat->Nat} {s t:St} {D:mS} {room:Int} {fs fs':List Fl} {l:List bA} {q:FoS} {sure:Nat} {i m:Nat} {e:bA} {n:Bs} {y:S} {xs:List S}
theorem aX.nd (h:aX ρ s D room fs l q sure):(fs.map (·.nm)).Nodup:=h.dk.nm
theorem tM (d:Nat) (h:aX ρ s D room fs l q sure) (hm:uN n) :
 ∃ ρ' fs' t c,R (d+3) 54 [Z (.ptr D.i 0),Z (.str n)] s=some (I .i64 c,t)/\aX ρ' t D room fs' l q sure/\cu fs'=qn n (cu fs)/\Kp ρ ρ' s t:=by
 have r:=h.ro
 cases hh:ik n (cu fs) with
 | false =>
   have e1:=nW d h.dk (ji hh) hm
   refine ⟨ρ,fs,s,9,e1,h,?_,Kp.refl _ _⟩
   unfold qn
   rw [List.filter_eq_self.2 fun v hv=>by simpa using fG.1 hh v hv]
 | true =>
   obtain ⟨k,f,hk,rfl⟩:=jQ hh
   obtain ⟨t,e1,k1,z1,o1⟩:=zx d h.dk hk hm
   have hkp:∀ c,c<s.size->ρ c≠0->t.get c=s.get c:=fun c hc hr=>o1 c fun e=>hr (by rw [e];exact r.m)
   exact ⟨_,_,t,0,e1,h.BO k1 (by omega) hkp fun g hg=>⟨fun _=>r.fb g (List.mem_of_mem_eraseIdx hg),fun c hc _=>r.fx g (List.mem_of_mem_eraseIdx hg) c hc⟩,FR h.nd hk,by omega,fun c hc=>if_pos hc,hkp⟩
theorem vQ (d:Nat) (h:aX ρ s D room fs l q sure) (hm:uN n) :
 ∃ ρ' fs' t c,R (d+3) 47 [Z (.ptr D.i 0),Z (.str n)] s=some (I .i64 c,t)/\aX ρ' t D room fs' l q sure/\cu fs'=fN n (cu fs)/\Kp ρ ρ' s t:=by
 have r:=h.ro
 cases hh:ik n (cu fs) with
 | false =>
   have e1:=tj d h.dk (ji hh) hm
   refine ⟨ρ,fs,s,9,e1,h,?_,Kp.refl _ _⟩
   exact (sG (fG.1 hh)).symm
 | true =>
   obtain ⟨k,f,hk,rfl⟩:=jQ hh
   have rH:=List.mem_of_getElem? hk
   obtain ⟨t,e1,k1,z1,o1⟩:=vB d h.dk hk hm
   have hkp:∀ c,c<s.size->ρ c≠0->t.get c=s.get c:=fun c hc hr=>o1 c fun e=>hr (by rw [e];exact r.fb f rH)
   refine ⟨_,_,t,0,e1,h.BO k1 z1 hkp fun g hg => ?_,sJ h.nd hk _ rfl,z1,fun c hc=>if_pos hc,hkp⟩
   rcases sE hk hg with rfl | hg
   · exact ⟨fun _=>r.fb f rH,fun c hc _=>r.fx f rH c hc⟩
   · exact ⟨fun _=>r.fb g hg,fun c hc _=>r.fx g hg c hc⟩
theorem Iq (d:Nat) (h:aX ρ s D room fs l q sure) (hm:uN n) {k0:Nat} (hk0:∀ v∈cu fs,v.nm=n->k0<=v.l.length) :
 ∃ ρ' fs' t c,R (d+3) 45 [Z (.ptr D.i 0),Z (.str n),I .i64 (k0:Nat)] s=some (I .i64 c,t)/\aX ρ' t D room fs' l q sure/\cu fs'=Ex n k0 (cu fs)/\Kp ρ ρ' s t:=by
 have r:=h.ro
 cases hh:ik n (cu fs) with
 | false =>
   have e1:=Ez d h.dk (ji hh) hm (k0:Nat)
   refine ⟨ρ,fs,s,9,e1,h,?_,Kp.refl _ _⟩
   exact (sG (fG.1 hh)).symm
 | true =>
   obtain ⟨k,f,hk,rfl⟩:=jQ hh
   have rH:=List.mem_of_getElem? hk
   obtain ⟨x',t,e1,k1,z1,o1,n1⟩:=GY d h.dk hk hm (n:=k0) (hk0 (vw f) (List.mem_map_of_mem rH) rfl)
   have hkp:∀ c,c<s.size->ρ c≠0->t.get c=s.get c:=fun c hc hr=>o1 c fun e=>hr (by rw [e];exact r.fb f rH)
   refine ⟨_,_,t,0,e1,h.BO k1 z1 hkp fun g hg => ?_,sJ h.nd hk _ rfl,z1,fun c hc=>if_pos hc,hkp⟩
   rcases sE hk hg with rfl | hg
   · refine ⟨fun _=>r.fb f rH,fun c hc _ => ?_⟩
     rcases n1 with e | e
     · rw [e] at hc;cases hc
     · rw [e] at hc;exact r.fx f rH c hc
   · exact ⟨fun _=>r.fb g hg,fun c hc _=>r.fx g hg c hc⟩
theorem IA (d:Nat) (h:aX ρ s D room fs l q sure) (hn:nN fs) (hm:uN n) (hno:ik n (cu fs)=false) (hy:yI s y xs) (ND:∀ c,own y=some c->c<s.size/\ρ c≠0) (hroom:(jC (cu fs):Int)+xs.length<=room) (hlen:xs.length<=40000) :
 ∃ ρ' fs' t,R (d+3) 12 [Z (.ptr D.i 0),Z (.str n),Z y] s=some (I .i64 0,t)/\aX ρ' t D room fs' l q sure/\cu fs'=cu fs++[⟨n,xs,0⟩]/\Kp ρ ρ' s t:=by
 have r:=h.ro
 obtain ⟨x',TR,t,e1,k1,z1,o1,n1,m1⟩:=qE d h.dk hn (ji hno) hm hy (fun c hc=>(ND c hc).1) (fun e=>(ND _ e).2 r.m) (by rw [kJ];exact hroom) hlen
 have hkp:∀ c,c<s.size->ρ c≠0->t.get c=s.get c:=fun c hc hr=>o1 c hc fun e=>hr (by rw [e];exact r.m)
 refine ⟨_,_,t,e1,h.BO k1 z1 hkp fun g hg => ?_,by simp [cu,vw],z1,fun c hc=>if_pos hc,hkp⟩
 rcases List.mem_append.1 hg with hg | hg
 · exact ⟨fun _=>r.fb g hg,fun c hc _=>r.fx g hg c hc⟩
 · rw [List.mem_singleton] at hg
   subst hg
   exact ⟨fun hlt=>by have:TR<s.size:=hlt;omega,fun c hc hlt=>by have:=m1 c hc;omega⟩
theorem vH (d:Nat) (h:aX ρ s D room fs l q sure) (hn:nN fs) (hm:uN n) (hy:yI s y xs) (ND:∀ c,own y=some c->c<s.size) (hroom:room<(jC (cu fs):Int)+xs.length) (hlen:xs.length<=40000) :
 ∃ t,R (d+3) 12 [Z (.ptr D.i 0),Z (.str n),Z y] s=some (I .i64 8,t)/\Gr s t:=by
 refine xB d h.dk hn hm hy ND hlen (by rw [kJ];exact hroom) ?_
 cases hh:ik n (cu fs) with
 | false=>exact .inr (ji hh)
 | true=>exact .inl (jQ hh)
theorem vM (d:Nat) (h:aX ρ s D room fs l q sure) (hm:uN n) {v:FV} (hv:v∈cu fs) (lU:v.nm=n) {bs:Bs} (hb:v.l=U bs) :
 ∃ y t,R (d+3) 42 [Z (.ptr D.i 0),Z (.str n)] s=some (.eF [.s y,.s (.int .i64 0)],t)/\Gr s t/\RB t y bs/\∀ c,own y=some c->s.size<=c/\c<t.size:=by
 obtain ⟨f,hf,rfl⟩:=List.mem_map.1 hv
 obtain ⟨k,hk⟩:=List.getElem?_of_mem hf
 obtain ⟨y,t,e1,g1,r1,o1⟩:=vA d h.dk hk (by rw [show f.nm=n from lU];exact hm)
 rw [show f.nm=n from lU] at e1
 rw [show f.l=U bs from hb] at r1
 unfold yI at r1
 rw [qz] at r1
 exact ⟨y,t,e1,g1,r1,o1⟩
theorem sR (d:Nat) (h:aX ρ s D room fs l q sure) (hn:nN fs) (hroom:room<(jC (cu fs):Int)+(aZ (bj e)).length) (hm:cd e=true) (hw:pb e) :
 ∃ t,R (d+13) 68 [Z (.ptr D.p 0),AE e] s=some (I .i64 8,t)/\Gr s t:=by
 obtain ⟨s1,hs1⟩:∃ s1,s1=s.push (.cells true (cE e)):=⟨_,rfl⟩
 have cZ:aL s (cf (AE e))=some (Z (.ptr s.size 0),s1):=by rw [hs1];rfl
 have g1:Gr s s1:=by rw [hs1];exact Gr.push h.nK _
 have b1:s1.get s.size=some (.cells true (cE e)):=by rw [hs1];exact St.aq _ _
 have l1:=c7 (g:=s1.get) b1
 obtain ⟨y,s2,e2,g2,f2⟩:=pO (d+2) g1.wf e hw
 have uV:eH e=some (aZ (bj e)):=by unfold eH;rw [if_pos hm]
 have fb:=f2 _ uV
 have Pr:=iP uV
 rw [uV] at e2
 have h2:=(h.gr g1).gr g2
 have q0:ab (Z (.ptr D.p 0)) s2.get=some (Z (.ptr D.i 0)):=ai h2.st rfl
 have Dr:(U (aZ (bj e))).length=(aZ (bj e)).length:=by simp [U]
 have hy:yI s2 y (U (aZ (bj e))):=by
  have:=fb.rd
  rw [← Dr] at this
  exact this
 obtain ⟨t,e3,g3⟩:=vH (d+9) h2 hn iq hy (fun c hc=>(fb.new c hc).2) (by rw [Dr];exact hroom) (by omega)
 refine ⟨t,?_,(g1.trans g2).trans g3⟩
 rw [Dh]
 unfold f68
 simp only [Nat.add_assoc,Nat.reduceAdd] at e2 e3
 rw [show dL=[108,111,103] from rfl] at e3
 generalize R (d+12)=rr at *
 simp [cZ,l1,e2,ah,q0,e3]
end
def O2 (k:Nat):Bs:=if k<10 then [UInt8.ofNat (48+k)] else if k<100 then [UInt8.ofNat (48+k / 10),UInt8.ofNat (48+k%10)] else [UInt8.ofNat (48+k / 100),UInt8.ofNat (48+k / 10%10),UInt8.ofNat (48+k%10)]
def bw (k:Nat):Bs:=115::O2 k
def isStr (n:Bs) (x:Option (T×St)):Bool:=match x with
 | some (.v (.s (.str m)),_)=>m == n
 | _=>false
def isInt (n:Int) (x:Option (T×St)):Bool:=match x with
 | some (.v (.s (.int .i64 m)),_)=>decide (m=n)
 | _=>false
theorem I7 {n:Bs} {x:Option (T×St)} (h:isStr n x=true):Option.map Prod.fst x=some (Z (.str n)):=by
 unfold isStr at h
 split at h
 · have:=eq_of_beq h
   subst this
   rfl
 · cases h
theorem I4 {n:Int} {x:Option (T×St)} (h:isInt n x=true):Option.map Prod.fst x=some (I .i64 n):=by
 unfold isInt at h
 split at h
 · have:=of_decide_eq_true h
   subst this
   rfl
 · cases h
theorem Dm {b:Bool} {x:Option (T×St)} (h:zH b x=true):Option.map Prod.fst x=some (B b):=by
 obtain ⟨τ,rfl⟩:=vD h
 rfl
noncomputable def kB (k:Nat):Bool:=isStr (bw k) (eS Tryz.prog 64 oP 16 69 [I .i64 (k:Nat)] St.empty)&&(zH true (eS Tryz.prog 64 oP 16 90 [Z (.str (bw k))] St.empty)&&isInt (k:Nat) (eS Tryz.prog 64 oP 16 52 [Z (.str (bw k))] St.empty))
set_option maxRecDepth 100000 in
theorem N8:((List.range 16).all fun k=>kB (0+k+1))=true:=by kernel_rfl
set_option maxRecDepth 100000 in
theorem N9:((List.range 16).all fun k=>kB (16+k+1))=true:=by kernel_rfl
set_option maxRecDepth 100000 in
theorem Oa:((List.range 16).all fun k=>kB (32+k+1))=true:=by kernel_rfl
set_option maxRecDepth 100000 in
theorem Ob:((List.range 16).all fun k=>kB (48+k+1))=true:=by kernel_rfl
section
variable {s:St} {k:Nat}
theorem x7 (h0:1<=k) (h1:k<=64):kB k=true:=by
 have key:∀ i,i<4->((List.range 16).all fun k=>kB (16*i+k+1))=true:=fun i hi=>by
  rcases (by omega:i=0\/i=1\/i=2\/i=3) with rfl | rfl | rfl | rfl
  · exact N8
  · exact N9
  · exact Oa
  · exact Ob
 have:=List.all_eq_true.1 (key ((k-1) / 16) (by omega)) ((k-1)%16) (List.mem_range.2 (by omega))
 rwa [show 16*((k-1) / 16)+(k-1)%16+1=k by omega] at this
theorem oH (d:Nat) (h0:1<=k) (h1:k<=64):R (d+1) 69 [I .i64 (k:Nat)] s=some (Z (.str (bw k)),s):=by
 have h:=x7 h0 h1
 unfold kB at h
 rw [Bool.and_eq_true] at h
 exact oO d s (by decide) (iG rfl (I7 h.1) rfl)
theorem lY (h0:1<=k) (h1:k<=64):uN (bw k):=fun d s=>by
 have h:=x7 h0 h1
 unfold kB at h
 rw [Bool.and_eq_true,Bool.and_eq_true] at h
 exact Ah d s (iG rfl (Dm h.2.1) rfl)
theorem NJ (d:Nat) (h0:1<=k) (h1:k<=64):R (d+1) 52 [Z (.str (bw k))] s=some (I .i64 (k:Nat),s):=by
 have h:=x7 h0 h1
 unfold kB at h
 rw [Bool.and_eq_true,Bool.and_eq_true] at h
 exact oO d s (by decide) (iG rfl (I4 h.2.2) rfl)
end
def EB:Bool:=(List.range 64).all fun i=>(List.range 64).all fun j=>(bw (i+1) == bw (j+1)) == Nat.beq i j
set_option maxRecDepth 100000 in
theorem xF:EB=true:=by kernel_rfl
theorem mE {i j:Nat} (hi:1<=i/\i<=64) (hj:1<=j/\j<=64) (h:bw i=bw j):i=j:=by
 have h1:=List.all_eq_true.1 xF (i-1) (List.mem_range.2 (by omega))
 have h2:=List.all_eq_true.1 h1 (j-1) (List.mem_range.2 (by omega))
 rw [show i-1+1=i by omega,show j-1+1=j by omega,h,beq_self_eq_true] at h2
 have h3:Nat.beq (i-1) (j-1)=true:=by simpa using h2
 have:=Nat.eq_of_beq_eq_true h3
 omega
theorem iF {k:Nat}:(bw k).length<=4:=by
 unfold bw O2
 split
 · simp
 · split<;>simp
structure eU where
 t:Int
 v:Int
 deriving DecidableEq
def cS (x:eU):List S:=[.int .i64 x.t,.int .i64 x.v]
abbrev AS (x:eU):T := .v (.agg (cS x))
theorem pG (x:eU):(cS x).length=2:=rfl
def I6 (n:Int):Prop := -9223372036854775808<=n/\n<9223372036854775808
abbrev W6 (n:Int):Int:=IntKind.i64.wrap n
theorem D8 {n:Int} (h:I6 n):W6 n=n:=aE _ h.1 h.2
theorem iX (n:Int):I6 (W6 n):=by
 unfold I6 W6 IntKind.wrap
 simp [IntKind.signed,IntKind.bits]
 omega
theorem Sr (n:Int):∃ k:Int,W6 n=n+18446744073709551616*k:=by
 unfold W6 IntKind.wrap
 simp [IntKind.signed,IntKind.bits]
 refine ⟨-((n+9223372036854775808) / 18446744073709551616),?_⟩
 omega
theorem PF {a b k:Int} (h:a=b+18446744073709551616*k):W6 a=W6 b:=by
 unfold W6 IntKind.wrap
 simp [IntKind.signed,IntKind.bits]
 omega
theorem C0 (a b:Int):W6 (a+W6 b)=W6 (a+b):=by
 obtain ⟨k,hk⟩:=Sr b
 exact PF (k:=k) (by rw [hk];omega)
def dF (n:Int):Nat:=if n<0 then (2*(-n)-1).toNat else (2*n).toNat
def lC (n:Nat):Int:=if n%2=1 then -((n / 2:Nat):Int)-1 else ((n / 2:Nat):Int)
theorem D9 (n:Int):lC (dF n)=n:=by
 unfold lC dF
 by_cases h:n<0
 · rw [if_pos h,if_pos (by omega)];omega
 · rw [if_neg h,if_neg (by omega)];omega
theorem kL {n:Int} (h:I6 n):dF n<2 ^ 64:=by
 obtain ⟨h1,h2⟩:=h
 unfold dF
 split<;>omega
theorem Sv {n:Nat} (h:n<2 ^ 64):I6 (lC n):=by
 unfold I6 lC
 split<;>omega
def cH:Int->List eU->Bool
 | _,[]=>true
 | last,a::r=>decide (last<a.t)&&decide (a.t<=1099511627776)&&cH a.t r
theorem iU:∀ {l:List eU} {last:Int},cH last l=true->∀ x∈l,last<x.t/\x.t<=1099511627776
 | [],_,_,x,hx=>by cases hx
 | a::r,last,h,x,hx=>by
   simp only [cH,Bool.and_eq_true,decide_eq_true_eq] at h
   rcases List.mem_cons.1 hx with rfl | hx
   · exact ⟨h.1.1,h.1.2⟩
   · have:=iU h.2 x hx
     exact ⟨by omega,this.2⟩
def fU:Int->eU->List eU->Bs
 | _,_,[]=>[]
 | step,was,a::r=>(aP (dF (W6 (W6 (a.t-was.t)-step)))++aP (dF (W6 (a.v-was.v))))++fU (W6 (a.t-was.t)) a r
def iO (a:eU):Bs:=aP a.t.toNat++aP (dF a.v)
def bp:List eU->Bs
 | []=>aP 0
 | a::r=>aP (r.length+1)++(iO a++fU 0 a r)
structure Rr where
 at_:Nat
 bad:Bool
 deriving DecidableEq
def nx (bs:Bs) (r:Rr):Nat×Rr:=match jW bs r.at_ with
 | some (n,to)=>(n,⟨to,r.bad⟩)
 | none=>(0,⟨r.at_,true⟩)
def fE (bs:Bs):Nat->List eU->Int->Rr->List eU×Rr
 | 0,acc,_,r=>(acc,r)
 | m+1,acc,step,r=>if r.bad=true then (acc,r) else
   match acc.getLast? with
   | none=>fE bs m [⟨W6 (nx bs r).1,lC (nx bs (nx bs r).2).1⟩] step (nx bs (nx bs r).2).2
   | some was=>fE bs m (acc++[⟨W6 (was.t+W6 (step+lC (nx bs r).1)),W6 (was.v+lC (nx bs (nx bs r).2).1)⟩]) (W6 (step+lC (nx bs r).1)) (nx bs (nx bs r).2).2
def fw (bs:Bs) (most:Nat) (r:Rr):Nat×Rr:=if most<(nx bs r).1 then (0,⟨(nx bs r).2.at_,true⟩) else nx bs r
def Am (l:List eU):Bool:=cH (-1) l&&Nat.ble l.length 64
def uT (bs:Bs):Option (List eU) :=
 if ((fE bs (fw bs 64 ⟨0,false⟩).1 [] 0 (fw bs 64 ⟨0,false⟩).2).2.bad || !Am (fE bs (fw bs 64 ⟨0,false⟩).1 [] 0 (fw bs 64 ⟨0,false⟩).2).1)=true then none
 else if bp (fE bs (fw bs 64 ⟨0,false⟩).1 [] 0 (fw bs 64 ⟨0,false⟩).2).1=bs then some (fE bs (fw bs 64 ⟨0,false⟩).1 [] 0 (fw bs 64 ⟨0,false⟩).2).1 else none
theorem wA {bs pre post:Bs} {n:Nat} {bad:Bool} (hb:bs=pre++(aP n++post)) (hn:n<2 ^ 64):nx bs ⟨pre.length,bad⟩=(n,⟨(pre++aP n).length,bad⟩):=by
 unfold nx
 rw [mP hb rfl hn,List.length_append]
theorem vz:∀ (l:List eU) {bs pre post:Bs} {acc:List eU} {step:Int} {was:eU},bs=pre++(fU step was l++post)->acc.getLast? = some was->I6 step->I6 was.t->I6 was.v->(∀ x∈l,I6 x.t/\I6 x.v) →
 fE bs l.length acc step ⟨pre.length,false⟩=(acc++l,⟨(pre++fU step was l).length,false⟩)
 | [],bs,pre,post,acc,step,was,hb,ha,_,_,_,_=>by simp [fE,fU]
 | a::r,bs,pre,post,acc,step,was,hb,ha,hs,ht,hv,hl=>by
   obtain ⟨yJ,OZ⟩:=hl a List.mem_cons_self
   have e1:nx bs ⟨pre.length,false⟩=(dF (W6 (W6 (a.t-was.t)-step)),⟨(pre++aP (dF (W6 (W6 (a.t-was.t)-step)))).length,false⟩) :=
    wA (post:=aP (dF (W6 (a.v-was.v)))++fU (W6 (a.t-was.t)) a r++post) (by rw [hb];simp [fU,List.append_assoc]) (kL (iX _))
   have e2:nx bs ⟨(pre++aP (dF (W6 (W6 (a.t-was.t)-step)))).length,false⟩=(dF (W6 (a.v-was.v)),⟨(pre++aP (dF (W6 (W6 (a.t-was.t)-step)))++aP (dF (W6 (a.v-was.v)))).length,false⟩) :=
    wA (post:=fU (W6 (a.t-was.t)) a r++post) (by rw [hb];simp [fU,List.append_assoc]) (kL (iX _))
   have h1:W6 (step+W6 (W6 (a.t-was.t)-step))=W6 (a.t-was.t):=by
    rw [C0,show step+(W6 (a.t-was.t)-step)=W6 (a.t-was.t) by omega]
    exact D8 (iX _)
   have h2:W6 (was.t+W6 (a.t-was.t))=a.t:=by rw [C0,show was.t+(a.t-was.t)=a.t by omega,D8 yJ]
   have h3:W6 (was.v+W6 (a.v-was.v))=a.v:=by rw [C0,show was.v+(a.v-was.v)=a.v by omega,D8 OZ]
   have ih:=vz r (bs:=bs) (pre:=pre++aP (dF (W6 (W6 (a.t-was.t)-step)))++aP (dF (W6 (a.v-was.v)))) (post:=post) (acc:=acc++[a]) (step:=W6 (a.t-was.t)) (was:=a) (by rw [hb];simp [fU,List.append_assoc]) (by simp) (iX _) yJ OZ (fun x hx=>hl x (List.mem_cons_of_mem _ hx))
   have VD:fE bs (r.length+1) acc step ⟨pre.length,false⟩=fE bs r.length (acc++[a]) (W6 (a.t-was.t)) ⟨(pre++aP (dF (W6 (W6 (a.t-was.t)-step)))++aP (dF (W6 (a.v-was.v)))).length,false⟩:=by
    rw [fE]
    simp only [ha,e1,e2,D9,h1,h2,h3]
    rfl
   rw [List.length_cons,VD,ih]
   simp [fU,List.append_assoc]
theorem B0 {l:List eU} (h:Am l=true) (hv:∀ x∈l,I6 x.v):uT (bp l)=some l:=by
 have h':=h
 unfold Am at h'
 rw [Bool.and_eq_true] at h'
 have hlen:=Nat.le_of_ble_eq_true h'.2
 have ht:∀ x∈l,I6 x.t/\0<=x.t:=fun x hx=>by
  have:=iU h'.1 x hx
  unfold I6
  omega
 have key:∃ at_,fw (bp l) 64 ⟨0,false⟩=(l.length,⟨at_,false⟩)/\∃ at2,fE (bp l) l.length [] 0 ⟨at_,false⟩=(l,⟨at2,false⟩):=by
  cases l with
  | nil =>
    have e1:nx (bp []) ⟨([]:Bs).length,false⟩=(0,_):=wA (post:=[]) (by simp [bp]) (by decide)
    refine ⟨([]++aP 0).length,?_,_,rfl⟩
    have V9:nx (bp []) ⟨0,false⟩=(0,⟨([]++aP 0).length,false⟩):=e1
    unfold fw
    rw [V9,if_neg (by simp)]
    rfl
  | cons a r =>
    rw [List.length_cons] at hlen
    have e1:nx (bp (a::r)) ⟨([]:Bs).length,false⟩=(r.length+1,⟨([]++aP (r.length+1)).length,false⟩):=wA (post:=iO a++fU 0 a r) (by simp [bp]) (by omega)
    have V9:nx (bp (a::r)) ⟨0,false⟩=(r.length+1,⟨([]++aP (r.length+1)).length,false⟩):=e1
    obtain ⟨a1,a2⟩:=ht a List.mem_cons_self
    have a3:=hv a List.mem_cons_self
    have e2:nx (bp (a::r)) ⟨([]++aP (r.length+1)).length,false⟩=(a.t.toNat,⟨([]++aP (r.length+1)++aP a.t.toNat).length,false⟩):=wA (post:=aP (dF a.v)++fU 0 a r) (by simp [bp,iO,List.append_assoc]) (by unfold I6 at a1;omega)
    have e3:nx (bp (a::r)) ⟨([]++aP (r.length+1)++aP a.t.toNat).length,false⟩=(dF a.v,⟨([]++aP (r.length+1)++aP a.t.toNat++aP (dF a.v)).length,false⟩):=wA (post:=fU 0 a r) (by simp [bp,iO,List.append_assoc]) (kL a3)
    refine ⟨([]++aP (r.length+1)).length,?_,?_⟩
    · unfold fw
      rw [V9,if_neg (by simp;omega)]
      rfl
    · have h4:W6 (a.t.toNat:Int)=a.t:=by rw [show (a.t.toNat:Int)=a.t by omega,D8 a1]
      have h5:=vz r (bs:=bp (a::r)) (pre:=[]++aP (r.length+1)++aP a.t.toNat++aP (dF a.v)) (post:=[]) (acc:=[a]) (step:=0) (was:=a) (by simp [bp,iO,List.append_assoc]) rfl (by unfold I6;omega) a1 a3 (fun x hx=>⟨(ht x (List.mem_cons_of_mem _ hx)).1,hv x (List.mem_cons_of_mem _ hx)⟩)
      refine ⟨([]++aP (r.length+1)++aP a.t.toNat++aP (dF a.v)++fU 0 a r).length,?_⟩
      rw [List.length_cons,fE]
      simp only [List.getLast?_nil,e2,e3,D9,h4]
      exact h5
 obtain ⟨at_,h1,at2,h2⟩:=key
 unfold uT
 rw [h1]
 simp only [h2,h]
 simp
theorem DL {n:Int} (h:I6 n):jZ .xor (I .i64 n)=some (I .i64 (-n-1)):=by
 obtain ⟨h1,h2⟩:=h
 have e:(BitVec.ofInt 64 (-1) ^^^ BitVec.ofInt 64 n) = ~~~ BitVec.ofInt 64 n:=by
  rw [show BitVec.ofInt 64 (-1)=BitVec.allOnes 64 by decide,BitVec.allOnes_xor]
 show some (I .i64 (IntKind.i64.wrap ((BitVec.ofInt 64 (-1) ^^^ BitVec.ofInt 64 n).toNat:Nat)))=_
 rw [e,BitVec.toNat_not,BitVec.toNat_ofInt]
 congr 2
 unfold IntKind.wrap
 simp [IntKind.signed,IntKind.bits]
 omega
section
variable {s t u:St} {x y:S} {l:List eU} {bs:Bs}
theorem yH (d:Nat) {n:Int} (h:I6 n):R (d+1) 196 [I .i64 n] s=some (I .u64 (dF n:Nat),s):=by
 rw [HS]
 unfold f196
 have h':=h
 obtain ⟨h1,h2⟩:=h'
 by_cases hn:n<0
 · obtain ⟨m,hm⟩:∃ m:Nat,(m:Int) = -n-1:=⟨(-n-1).toNat,by omega⟩
   have e1:=DL h
   rw [← hm] at e1
   have e2:aI .u64 (I .i64 (m:Int))=some (I .u64 (m:Int)):=by rw [aY,wrap64 _ (by omega)]
   have e3:af .shl (I .u64 (m:Int)) (I .u64 1)=some (I .u64 ((m*2 ^ 1:Nat):Int)):=yA m 1 (by omega) (by decide)
   have e4:af .or (I .u64 ((m*2 ^ 1:Nat):Int)) (I .u64 1)=some (I .u64 ((m*2 ^ 1 ||| 1:Nat):Int)):=JK (m*2 ^ 1) 1 (by omega) (by decide)
   have e5:m*2 ^ 1 ||| 1=dF n:=by
    have h3:m*2 ^ 1 ||| 1=m*2 ^ 1+1:=by
     have:=Nat.two_pow_add_eq_or_of_lt (i:=1) (b:=1) (by decide) m
     rw [Nat.mul_comm m]
     exact this.symm
    rw [h3]
    unfold dF
    rw [if_pos hn]
    omega
   rw [e5] at e4
   generalize dF n=z at *
   generalize ((m*2 ^ 1:Nat):Int)=m2 at *
   generalize (m:Int)=mm at *
   simp [hn,e1,e2,e3,e4]
 · obtain ⟨m,hm⟩:∃ m:Nat,(m:Int)=n:=⟨n.toNat,by omega⟩
   subst hm
   have e2:aI .u64 (I .i64 (m:Int))=some (I .u64 (m:Int)):=by rw [aY,wrap64 _ (by omega)]
   have e3:af .shl (I .u64 (m:Int)) (I .u64 1)=some (I .u64 ((m*2 ^ 1:Nat):Int)):=yA m 1 (by omega) (by decide)
   have e5:m*2 ^ 1=dF m:=by
    unfold dF
    rw [if_neg hn]
    omega
   rw [e5] at e3
   have pg:¬ (m:Int)<0:=hn
   generalize dF m=z at *
   generalize (m:Int)=mm at *
   simp [pg,e2,e3]
theorem yG (d:Nat) {n:Nat} (h:n<2 ^ 64):R (d+1) 154 [I .u64 (n:Nat)] s=some (I .i64 (lC n),s):=by
 rw [Hv]
 unfold f154
 have e1:af .and (I .u64 (n:Nat)) (I .u64 1)=some (I .u64 ((n &&& 1:Nat))):=K9 n 1 h (by decide)
 rw [Nat.and_one_is_mod] at e1
 have e2:af .shr (I .u64 (n:Nat)) (I .u64 1)=some (I .u64 ((n / 2 ^ 1:Nat))):=eX .u64 n 1 (by decide)
 have e3:aI .i64 (I .u64 ((n / 2 ^ 1:Nat):Int))=some (I .i64 ((n / 2 ^ 1:Nat):Int)):=by rw [aY,rF _ (by omega)]
 have e4:=DL (n:=((n / 2 ^ 1:Nat):Int)) ⟨by omega,by omega⟩
 by_cases hm:n%2=1
 · have hz:lC n = -((n / 2 ^ 1:Nat):Int)-1:=by unfold lC;rw [if_pos hm]
   rw [hz]
   have c1:((n%2:Nat):Int)=1:=by omega
   generalize ((n / 2 ^ 1:Nat):Int)=a at *
   generalize ((n%2:Nat):Int)=b at *
   generalize ((n:Nat):Int)=c at *
   simp [e1,c1,e2,e3,e4]
 · have hz:lC n=((n / 2 ^ 1:Nat):Int):=by unfold lC;rw [if_neg hm]
   rw [hz]
   have c1:¬ ((n%2:Nat):Int)=1:=by omega
   generalize ((n / 2 ^ 1:Nat):Int)=a at *
   generalize ((n%2:Nat):Int)=b at *
   generalize ((n:Nat):Int)=c at *
   simp [e1,c1,e2,e3]
abbrev pn (s:St) (x:S) (l:List eU):Prop:=Rd 2 s x l.length (cells cS l)
theorem Sp {i:Nat} {vs:List S} {e:eU} (h:s.get i=some (.cells true vs)) (hv:vs.length=2):aw 2 (Z (.ptr i 0)) (AS e) s=some (tt,s.set i (.cells true (cS e))):=by
 have hb:(V.agg (cS e)).cells.length=2/\0+2<=vs.length:=⟨rfl,by omega⟩
 simp only [aw,h,if_pos hb]
 rw [show (V.agg (cS e)).cells=cS e from rfl,eD (by rw [hv];rfl)]
theorem pn.Eo (h:pn s x l) {j:Nat} {n:Int} {e:eU} (hn:n=j) (he:l[j]? = some e):∃ c p,av 2 (Z x) (I .i64 n)=some (Z (.ptr c p))/\aH 2 (Z (.ptr c p)) s.get=some (AS e)/\ab (Z (.ptr c p)) s.get=some (I .i64 e.t)/\ab (Z (.ptr c (p+1))) s.get=some (I .i64 e.v):=by
 obtain ⟨c,p,h1,h2,h3⟩:=Rd.at h hn (List.getElem?_eq_some_iff.1 he).1
 rw [jL pG he] at h3
 exact ⟨c,p,h1,h3,h2 0 _ (by omega) (by rw [gf pG he (by omega)];rfl),h2 1 _ (by omega) (by rw [gf pG he (by omega)];rfl)⟩
theorem PY (wf:s.wf) (e:eU):∃ s1 s2,aL s (bb [.int .i64 0,.int .i64 0])=some (Z (.ptr s.size 0),s1)/\aw 2 (Z (.ptr s.size 0)) (AS e) s1=some (tt,s2)/\Gr s s2/\s2.get s.size=some (.cells true (cS e))/\s2.size=s.size+1 ∧
 ab (Z (.ptr s.size 0)) s2.get=some (I .i64 e.t)/\ab (Z (.ptr s.size 1)) s2.get=some (I .i64 e.v):=by
 have b0:(s.push (.cells true [.int .i64 0,.int .i64 0])).get s.size=some (.cells true [.int .i64 0,.int .i64 0]):=St.aq _ _
 have b1:((s.push (.cells true [.int .i64 0,.int .i64 0])).set s.size (.cells true (cS e))).get s.size=some (.cells true (cS e)):=St.ar _ _ _
 exact ⟨s.push (.cells true [.int .i64 0,.int .i64 0]),_,rfl,Sp b0 rfl,⟨St.wf_set (St.bu wf _) (by simp) _,by simp,fun c hc=>by rw [St.aj _ _ (by omega),St.aD _ _ (by omega)]⟩,b1,by simp,ai b1 rfl,ai b1 rfl⟩
theorem nG (d:Nat) (wf:s.wf) (h:pn s x l) (eQ:∀ c,own x=some c->c<s.size) (hl:l.length<=8000):∃ t,R (d+1) 195 [Z x] s=some (B (cH (-1) l),t)/\Gr s t:=by
 have ll:=h.lens
 obtain ⟨j,τ,lp,hj,g⟩:=aV (f:=my (R d) 8192)
  (fun q v u=>∃ (k:Nat) (last:Int),q+k=l.length/\v=[I .i64 last,Z x,I .i64 l.length,I .i64 (k:Nat)]/\Gr s u/\cH last (l.drop k)=cH (-1) l)
  (fun j u=>((j = .exit 0 []/\cH (-1) l=true)\/(j = .ret (B false)/\cH (-1) l=false))/\Gr s u) (by
  rintro q v u ⟨k,last,hq,rfl,g,hr⟩
  by_cases hk:k<l.length
  · obtain ⟨a,ha⟩:∃ a,a=l[k]:=⟨_,rfl⟩
    have xQ:l[k]? = some a:=by rw [List.getElem?_eq_getElem hk,ha]
    have m6:l.drop k=a::l.drop (k+1):=by rw [List.drop_eq_getElem_cons hk,ha]
    rw [m6] at hr
    obtain ⟨c,p,ix,ld,_,_⟩:=pn.Eo (h.gr eQ g) (n:=((k:Nat):Int)) rfl xQ
    obtain ⟨u1,u2,e1,e2,g2,b2,z2,l0,l1⟩:=PY g.wf a
    have c0:((k:Nat):Int)<((l.length:Nat):Int):=by omega
    have w1:IntKind.i64.wrap ((k:Int)+1)=((k+1:Nat):Int):=by rw [aE _ (by omega) (by omega)];omega
    by_cases h1:last<a.t
    · by_cases h2:a.t<=1099511627776
      · left
        refine ⟨[I .i64 a.t,Z x,I .i64 l.length,I .i64 ((k+1:Nat):Int)],u2,q-1,?_,by omega,k+1,a.t,by omega,rfl,g.trans g2,?_⟩
        · unfold my
          have c1:¬ a.t<=last:=by omega
          have c2:¬ 1099511627776<a.t:=by omega
          generalize ((k+1:Nat):Int)=K1 at *
          generalize ((k:Nat):Int)=K0 at *
          generalize ((l.length:Nat):Int)=LL at *
          simp [c0,ix,ld,e1,e2,l0,c1,c2,w1]
        · rw [← hr]
          simp [cH,h1,h2]
      · right
        refine ⟨.ret (B false),u2,?_,(fun v h=>by cases h),.inr ⟨rfl,by rw [← hr];simp [cH,h2]⟩,g.trans g2⟩
        unfold my
        have c1:¬ a.t<=last:=by omega
        have c2:1099511627776<a.t:=by omega
        generalize ((k:Nat):Int)=K0 at *
        generalize ((l.length:Nat):Int)=LL at *
        simp [c0,ix,ld,e1,e2,l0,c1,c2]
    · right
      refine ⟨.ret (B false),u2,?_,(fun v h=>by cases h),.inr ⟨rfl,by rw [← hr];simp [cH,h1]⟩,g.trans g2⟩
      unfold my
      have c1:a.t<=last:=by omega
      generalize ((k:Nat):Int)=K0 at *
      generalize ((l.length:Nat):Int)=LL at *
      simp [c0,ix,ld,e1,e2,l0,c1]
  · right
    have hkk:k=l.length:=by omega
    subst hkk
    rw [List.drop_length] at hr
    refine ⟨.exit 0 [],u,?_,(fun v h=>by cases h),.inl ⟨rfl,hr.symm⟩,g⟩
    unfold my
    simp)
  8192 l.length _ s ⟨0,-1,by omega,rfl,Gr.refl wf,by simp⟩ (by omega)
 refine ⟨τ,?_,g⟩
 rw [HR]
 unfold f195
 have e0:((0:Nat):Int)=0:=rfl
 rw [e0] at lp
 rcases hj with ⟨rfl,hr⟩ | ⟨rfl,hr⟩
 · rw [hr];simp [ll,lp]
 · rw [hr];simp [ll,lp]
def cR (x:S) (r:Rr):List S:=[x,.int .i64 (r.at_:Nat),.bool r.bad]
theorem Ij {bs:Bs} {at_:Nat}:∀ (f k n:Nat) {v to:Nat},f+k=10->n<2 ^ 64->ot bs at_ f k n=some (v,to)->v<2 ^ 64:=by
 intro f
 induction f with
 | zero=>intro k n v to _ _ h;cases h
 | succ f ih =>
   intro k n v to hk hn h
   unfold ot at h
   split at h
   · cases h
   · rename_i c hc
     split at h
     · cases h
     · rename_i h9
       have ID:c.toNat%128*2 ^ (7*k)<2 ^ 64:=by
        by_cases Wt:k=9
        · subst Wt
          have:c.toNat<=1:=by
           apply Nat.le_of_not_lt
           intro h
           exact h9 ⟨rfl,h⟩
          have h2:c.toNat%128<=1:=Nat.le_trans (Nat.mod_le _ _) this
          calc c.toNat%128*2 ^ (7*9)<=1*2 ^ (7*9):=Nat.mul_le_mul_right _ h2
           _<2 ^ 64:=by decide
        · have h2:c.toNat%128<128:=Nat.mod_lt _ (by decide)
          calc c.toNat%128*2 ^ (7*k)<=127*2 ^ (7*k):=Nat.mul_le_mul_right _ (by omega)
           _<=127*2 ^ (7*8):=Nat.mul_le_mul_left _ (Nat.pow_le_pow_right (by omega) (by omega))
           _<2 ^ 64:=by decide
       have pg:(n ||| c.toNat%128*2 ^ (7*k))<2 ^ 64:=Nat.or_lt_two_pow hn ID
       split at h
       · exact ih _ _ (by omega) pg h
       · split at h
         · cases h
         · cases h
           exact pg
theorem A9 {bs:Bs} {n:Nat} {v to:Nat} (h:jW bs n=some (v,to)):v<2 ^ 64:=by
 unfold jW at h
 split at h
 · exact Ij 10 0 0 (by omega) (by decide) h
 · cases h
set_option maxHeartbeats 1000000 in
theorem yb (d:Nat) {p:Nat} {r:Rr} (wf:s.wf) (hp:s.get p=some (.cells true (cR x r))) (h:RB s x bs) (hl:bs.length<=100000) (ha:r.at_<=bs.length) :
 ∃ t,R (d+2) 153 [Z (.ptr p 0)] s=some (I .u64 ((nx bs r).1:Nat),t)/\t.get p=some (.cells true (cR x (nx bs r).2))/\t.size=s.size/\t.wf/\(nx bs r).2.at_<=bs.length/\(nx bs r).1<2 ^ 64/\∀ c,c≠p->t.get c=s.get c:=by
 have e1:=o8 d h hl (at_:=r.at_) (by omega)
 have q0:ab (Z (.ptr p 0)) s.get=some (Z x):=ai hp rfl
 have q1:ab (Z (.ptr p 1)) s.get=some (I .i64 (r.at_:Nat)):=ai hp rfl
 have hpl:=wf.lt hp
 rw [Hu]
 unfold f153
 cases hv:jW bs r.at_ with
 | some o =>
   obtain ⟨v,to⟩:=o
   have hx:nx bs r=(v,⟨to,r.bad⟩):=by unfold nx;rw [hv]
   have hlt:=sI hv
   have h64:=A9 hv
   rw [hv] at e1
   simp only [uF] at e1
   rw [hx]
   obtain ⟨t,ht⟩:∃ t,t=s.set p (.cells true (cR x ⟨to,r.bad⟩)):=⟨_,rfl⟩
   have st:aw 1 (Z (.ptr p 1)) (I .i64 (to:Nat)) s=some (tt,t):=by rw [ht];exact aW hp (by simp [cR])
   refine ⟨t,?_,by rw [ht];exact St.ar _ _ _,by rw [ht];simp,by rw [ht];exact St.wf_set wf hpl _,hlt.2,h64,fun c hc=>by rw [ht];exact St.aj _ _ hc⟩
   generalize R (d+1)=rr at *
   generalize ((v:Nat):Int)=V at *
   generalize ((to:Nat):Int)=TO at *
   generalize ((r.at_:Nat):Int)=A at *
   simp [q0,q1,e1,ah,st]
 | none =>
   have hx:nx bs r=(0,⟨r.at_,true⟩):=by unfold nx;rw [hv]
   rw [hv] at e1
   simp only [uF,if_pos ha] at e1
   rw [hx]
   obtain ⟨t1,ht1⟩:∃ t1,t1=s.set p (.cells true (cR x ⟨r.at_,true⟩)):=⟨_,rfl⟩
   have yB:aw 1 (Z (.ptr p 2)) (B true) s=some (tt,t1):=by rw [ht1];exact aW hp (by simp [cR])
   have b1:t1.get p=some (.cells true (cR x ⟨r.at_,true⟩)):=by rw [ht1];exact St.ar _ _ _
   obtain ⟨t,ht⟩:∃ t,t=t1.set p (.cells true (cR x ⟨r.at_,true⟩)):=⟨_,rfl⟩
   have st:aw 1 (Z (.ptr p 1)) (I .i64 (r.at_:Nat)) t1=some (tt,t):=by rw [ht];exact aW b1 (by simp [cR])
   refine ⟨t,?_,by rw [ht];exact St.ar _ _ _,by rw [ht,ht1];simp,by rw [ht,ht1];exact St.wf_set (St.wf_set wf hpl _) (by simpa using hpl) _,ha,(show (0:Nat)<2 ^ 64 by decide),fun c hc=>by rw [ht,ht1,St.aj _ _ hc,St.aj _ _ hc]⟩
   generalize R (d+1)=rr at *
   generalize ((r.at_:Nat):Int)=A at *
   simp [q0,q1,e1,ah,yB,st]
theorem Lh (d:Nat) {p:Nat} {r:Rr} (wf:s.wf) (hp:s.get p=some (.cells true (cR x r))) (h:RB s x bs) (hl:bs.length<=100000) (ha:r.at_<=bs.length) {most:Nat} (hm:most<2 ^ 62) :
 ∃ t,R (d+3) 152 [Z (.ptr p 0),I .i64 (most:Nat)] s=some (I .i64 ((fw bs most r).1:Nat),t)/\t.get p=some (.cells true (cR x (fw bs most r).2))/\t.size=s.size/\t.wf/\(fw bs most r).2.at_<=bs.length/\(fw bs most r).1<=most/\∀ c,c≠p->t.get c=s.get c:=by
 obtain ⟨t,e1,b1,z1,w1,a1,l1,k1⟩:=yb d wf hp h hl ha
 rw [Ht]
 unfold f152
 have c1:aI .u64 (I .i64 (most:Nat))=some (I .u64 (most:Nat)):=by rw [aY,wrap64 _ (by omega)]
 by_cases hn:most<(nx bs r).1
 · have hx:fw bs most r=(0,⟨(nx bs r).2.at_,true⟩):=by unfold fw;rw [if_pos hn]
   rw [hx]
   obtain ⟨t2,ht2⟩:∃ t2,t2=t.set p (.cells true (cR x ⟨(nx bs r).2.at_,true⟩)):=⟨_,rfl⟩
   have st:aw 1 (Z (.ptr p 2)) (B true) t=some (tt,t2):=by rw [ht2];exact aW b1 (by simp [cR])
   refine ⟨t2,?_,by rw [ht2];exact St.ar _ _ _,by rw [ht2];simpa using z1,by rw [ht2];exact St.wf_set w1 (w1.lt b1) _,a1,Nat.zero_le _,fun c hc=>by rw [ht2,St.aj _ _ hc];exact k1 c hc⟩
   have c2:((most:Nat):Int)<(((nx bs r).1:Nat):Int):=by omega
   generalize R (d+2)=rr at *
   generalize (((nx bs r).1:Nat):Int)=V at *
   generalize ((most:Nat):Int)=M at *
   simp [e1,c1,c2,st]
 · have hx:fw bs most r=nx bs r:=by unfold fw;rw [if_neg hn]
   rw [hx]
   refine ⟨t,?_,b1,z1,w1,a1,by omega,k1⟩
   have c2:¬ ((most:Nat):Int)<(((nx bs r).1:Nat):Int):=by omega
   have c3:aI .i64 (I .u64 (((nx bs r).1:Nat):Int))=some (I .i64 (((nx bs r).1:Nat):Int)):=by rw [aY,rF _ (by omega)]
   generalize R (d+2)=rr at *
   generalize (((nx bs r).1:Nat):Int)=V at *
   generalize ((most:Nat):Int)=M at *
   simp [e1,c1,c2,c3]
end
section
variable {s t u s0:St} {x y b:S} {l:List eU} {bs:Bs}
def nO (l:List eU) (k:Nat) (step:Int) (rest:Bs):Prop :=
 (k=0/\step=0/\((l=[]/\rest=[])\/∃ a r,l=a::r/\rest=iO a++fU 0 a r))\/∃ j was,k=j+1/\l[j]? = some was/\I6 step/\rest=fU step was (l.drop k)
theorem wG {k:Nat} {step:Int} {rest:Bs} (h:nO l k step rest) (hk:l.length<=k):rest=[]:=by
 rcases h with ⟨rfl,_,⟨_,h⟩ | ⟨a,r,rfl,_⟩⟩ | ⟨j,was,rfl,_,_,h⟩
 · exact h
 · simp at hk
 · rw [h,List.drop_eq_nil_of_le hk];rfl
theorem oL {e c p:Nat} {n:Int} (h:av e (Z x) (I .i64 n)=some (Z (.ptr c p))):own x=some c:=by
 unfold av at h
 split at h
 · rename_i heq
   injection heq with h1
   injection h1 with h1
   subst h1
   split at h
   · injection h with h
     injection h with h
     injection h with h
     injection h with h1 h2
     rw [← h1];rfl
   · cases h
 · cases h
theorem qf {g g':Mem} {c p:Nat} (h:g c=g' c):ab (Z (.ptr c p)) g=ab (Z (.ptr c p)) g':=by
 simp only [ab,h]
set_option maxHeartbeats 4000000 in
theorem BJ (d:Nat) {k:Nat} {step:Int} {acc rest:Bs} (h:pn s0 x l) (eQ:∀ c,own x=some c->c<s0.size) (hb:FB s0 u b acc) (hr:nO l k step rest) (hk:k<l.length) (hl:l.length<=64) (ht:∀ a∈l,I6 a.t/\0<=a.t/\I6 a.v) (ha:acc.length<=22*k+11) :
 ∃ u' b' jq kX rest',mw (R (d+1)) 8192 [Z x,Z b,I .i64 step,Z x,I .i64 l.length,I .i64 (k:Nat)] u=some (.normal [Z x,Z b',I .i64 jq,Z x,I .i64 l.length,I .i64 ((k+1:Nat):Int)],u') ∧
   FB s0 u' b' kX/\nO l (k+1) jq rest'/\kX++rest'=acc++rest/\kX.length<=22*(k+1)+11:=by
 have c0:((k:Nat):Int)<((l.length:Nat):Int):=by omega
 have w1:IntKind.i64.wrap ((k:Int)+1)=((k+1:Nat):Int):=by rw [aE _ (by omega) (by omega)];omega
 obtain ⟨a,Rk⟩:∃ a,a=l[k]:=⟨_,rfl⟩
 have xQ:l[k]? = some a:=by rw [List.getElem?_eq_getElem hk,Rk]
 obtain ⟨yJ,at0,OZ⟩:=ht a (List.mem_of_getElem? xQ)
 have hu:=h.gr eQ hb.gr
 obtain ⟨c,p,ix,ld,_,_⟩:=pn.Eo hu (n:=((k:Nat):Int)) rfl xQ
 obtain ⟨u1,u2,e1,e2,g2,b2,z2,l0,l1⟩:=PY hb.gr.wf a
 have iE:=Fr.kY hb g2
 have vl:∀ n,(aP n).length<=11:=bF
 have DP:own b≠some u.size:=fun e=>by have:=(hb.new _ e).2;omega
 rcases hr with ⟨rfl,rfl,⟨rfl,_⟩ | ⟨a',r,rfl,rfl⟩⟩ | ⟨j,was,rfl,hj,hst,rfl⟩
 · simp at hk
 · have:a'=a:=by simpa using xQ
   subst this
   have c1:aI .u64 (I .i64 a'.t)=some (I .u64 (a'.t.toNat:Nat)):=by
    have h1:a'.t=(a'.t.toNat:Int):=by omega
    have h2:=yJ.2
    rw [aY]
    have:=wrap64 a'.t.toNat (by omega)
    rw [← h1] at this
    rw [this]
    congr 3
   obtain ⟨y1,u3,e3,f3⟩:=fO d iE.gr.wf a'.t.toNat (by have:=yJ.2;omega)
   obtain ⟨b4,u4,e4,f4,z4,k4⟩:=FB.app (Fr.kY iE f3.gr) f3.rd (by have:=vl a'.t.toNat;omega)
   have z3:=f3.gr.2.1
   have U3:u3.get u.size=some (.cells true (cS a')):=f3.gr.get b2 g2.wf
   have Tf:u4.get u.size=some (.cells true (cS a')):=by rw [k4 _ (by omega) DP];exact U3
   have RX:ab (Z (.ptr u.size 1)) u4.get=some (I .i64 a'.v):=ai Tf rfl
   have U7:ab (Z (.ptr u.size 1)) u3.get=some (I .i64 a'.v):=ai U3 rfl
   have e5:=yH (s:=u4) d OZ
   obtain ⟨y2,u6,e6,f6⟩:=fO d f4.gr.wf (dF a'.v) (kL OZ)
   obtain ⟨b7,u7,e7,f7,z7,k7⟩:=FB.app (Fr.kY f4 f6.gr) f6.rd (by have:=vl a'.t.toNat;have:=vl (dF a'.v);rw [List.length_append];omega)
   refine ⟨u7,b7,0,_,fU 0 a' r,?_,f7,.inr ⟨0,a',rfl,rfl,by unfold I6;omega,rfl⟩,by simp [iO,List.append_assoc],by have:=vl a'.t.toNat;have:=vl (dF a'.v);rw [List.length_append,List.length_append];omega⟩
   unfold mw
   have k0:((0:Nat):Int)=0:=rfl
   rw [k0] at ix c0
   have w1:IntKind.i64.wrap 1=((0+1:Nat):Int):=rfl
   generalize R (d+1)=rr at *
   generalize u.size=us at *
   generalize dF a'.v=zv at *
   generalize ((zv:Nat):Int)=zz at *
   generalize ((a'.t.toNat:Nat):Int)=tn at *
   generalize ((0+1:Nat):Int)=K1 at *
   generalize (((a'::r).length:Nat):Int)=LL at *
   simp [c0,ix,ld,e1,e2,l0,c1,e3,e4,RX,e5,e6,e7,l1,U7,w1]
 · have YU:=ht was (List.mem_of_getElem? hj)
   have c1:¬ ((j+1:Nat):Int)=0:=by omega
   have w2:IntKind.i64.wrap (((j+1:Nat):Int)-1)=((j:Nat):Int):=by rw [aE _ (by omega) (by omega)];omega
   have zS:=hu.gr (fun c hc=>Nat.lt_of_lt_of_le (eQ c hc) hb.gr.2.1) g2
   obtain ⟨c',p',tS,_,Vc,R3⟩:=pn.Eo zS (n:=((j:Nat):Int)) rfl hj
   have jy:c'<s0.size:=eQ c' (oL tS)
   have Yu:W6 (a.t-was.t)=W6 (a.t-was.t):=rfl
   have e5:=yH (s:=u2) d (iX (W6 (a.t-was.t)-step))
   obtain ⟨y1,u3,e3,f3⟩:=fO d iE.gr.wf (dF (W6 (W6 (a.t-was.t)-step))) (kL (iX _))
   obtain ⟨b4,u4,e4,f4,z4,k4⟩:=FB.app (Fr.kY iE f3.gr) f3.rd (by have:=vl (dF (W6 (W6 (a.t-was.t)-step)));omega)
   have z3:=f3.gr.2.1
   have U3:u3.get u.size=some (.cells true (cS a)):=f3.gr.get b2 g2.wf
   have Tf:u4.get u.size=some (.cells true (cS a)):=by rw [k4 _ (by omega) DP];exact U3
   have RX:ab (Z (.ptr u.size 1)) u4.get=some (I .i64 a.v):=ai Tf rfl
   have U7:ab (Z (.ptr u.size 1)) u3.get=some (I .i64 a.v):=ai U3 rfl
   have kc3:u3.get c'=u2.get c':=f3.gr.2.2 c' (by have:=iE.gr.2.1;omega)
   have kc4:u4.get c'=u2.get c':=by rw [f4.gr.2.2 c' jy,iE.gr.2.2 c' jy]
   have lv4:ab (Z (.ptr c' (p'+1))) u4.get=some (I .i64 was.v):=by rw [qf kc4];exact R3
   have Zk:ab (Z (.ptr c' (p'+1))) u3.get=some (I .i64 was.v):=by rw [qf kc3];exact R3
   have e8:=yH (s:=u4) d (iX (a.v-was.v))
   obtain ⟨y2,u6,e6,f6⟩:=fO d f4.gr.wf (dF (W6 (a.v-was.v))) (kL (iX _))
   obtain ⟨b7,u7,e7,f7,z7,k7⟩:=FB.app (Fr.kY f4 f6.gr) f6.rd (by have:=vl (dF (W6 (W6 (a.t-was.t)-step)));have:=vl (dF (W6 (a.v-was.v)));rw [List.length_append];omega)
   have m6:l.drop (j+1)=a::l.drop (j+1+1):=by rw [List.drop_eq_getElem_cons hk,Rk]
   refine ⟨u7,b7,W6 (a.t-was.t),_,fU (W6 (a.t-was.t)) a (l.drop (j+1+1)),?_,f7,.inr ⟨j+1,a,rfl,xQ,iX _,rfl⟩,?_,?_⟩
   · unfold mw
     generalize R (d+1)=rr at *
     generalize u.size=us at *
     have s1:af .sub (I .i64 a.t) (I .i64 was.t)=some (I .i64 (W6 (a.t-was.t))):=by rw [js]
     have s2:af .sub (I .i64 (W6 (a.t-was.t))) (I .i64 step)=some (I .i64 (W6 (W6 (a.t-was.t)-step))):=by rw [js]
     have s3:af .sub (I .i64 a.v) (I .i64 was.v)=some (I .i64 (W6 (a.v-was.v))):=by rw [js]
     clear m6 Yu
     generalize W6 (W6 (a.t-was.t)-step)=A1 at *
     generalize W6 (a.t-was.t)=A2 at *
     generalize W6 (a.v-was.v)=A3 at *
     generalize ((dF A1:Nat):Int)=z1 at *
     generalize ((dF A3:Nat):Int)=z3 at *
     generalize ((j+1+1:Nat):Int)=K2 at *
     generalize ((j+1:Nat):Int)=K1 at *
     generalize ((j:Nat):Int)=K0 at *
     generalize ((l.length:Nat):Int)=LL at *
     simp [c0,ix,ld,e1,e2,l0,c1,w2,tS,Vc,s1,s2,e5,e3,e4,RX,lv4,s3,e8,e6,e7,l1,U7,R3,Zk,w1]
   · rw [m6];simp [fU,List.append_assoc]
   · have:=vl (dF (W6 (W6 (a.t-was.t)-step)));have:=vl (dF (W6 (a.v-was.v)))
     rw [List.length_append,List.length_append];omega
set_option maxHeartbeats 2000000 in
theorem zk (d:Nat) (wf:s.wf) (h:pn s x l) (eQ:∀ c,own x=some c->c<s.size) (hok:Am l=true) (hv:∀ a∈l,I6 a.v):∃ y t,R (d+2) 155 [Z x] s=some (.eF [.s y,.s (.int .i64 0)],t)/\FB s t y (bp l):=by
 have tL:=hok
 unfold Am at tL
 rw [Bool.and_eq_true] at tL
 have hl:l.length<=64:=Nat.le_of_ble_eq_true tL.2
 have ht:∀ a∈l,I6 a.t/\0<=a.t/\I6 a.v:=fun a ha=>by
  have h1:=iU tL.1 a ha
  have h2:=hv a ha
  unfold I6 at *
  omega
 obtain ⟨s1,e1,g1⟩:=nG d wf h eQ (by omega)
 rw [tL.1] at e1
 have ll:=h.lens
 have c1:¬ 64<((l.length:Nat):Int):=by omega
 have c2:aI .u64 (I .i64 ((l.length:Nat):Int))=some (I .u64 ((l.length:Nat):Int)):=by rw [aY,wrap64 _ (by omega)]
 obtain ⟨b,s2,e2,f2⟩:=fO d g1.wf l.length (by omega)
 have h2:=h.gr eQ (g1.trans f2.gr)
 have f2':FB s s2 b (aP l.length):=Fr.from g1 f2
 have hblk:∃ rest,nO l 0 0 rest/\aP l.length++rest=bp l:=by
  cases l with
  | nil=>exact ⟨[],.inl ⟨rfl,rfl,.inl ⟨rfl,rfl⟩⟩,by simp [bp]⟩
  | cons a r=>exact ⟨iO a++fU 0 a r,.inl ⟨rfl,rfl,.inr ⟨a,r,rfl,rfl⟩⟩,by simp [bp]⟩
 obtain ⟨rest,hr,nL⟩:=hblk
 obtain ⟨j,τ,lp,y,rfl,hF⟩:=aV (f:=mw (R (d+1)) 8192)
  (fun q v u=>∃ (k:Nat) (b:S) (step:Int) (acc rest:Bs),q+k=l.length/\v=[Z x,Z b,I .i64 step,Z x,I .i64 l.length,I .i64 (k:Nat)]/\FB s u b acc/\nO l k step rest/\acc++rest=bp l/\acc.length<=22*k+11)
  (fun j u=>∃ y,j = .exit 0 [Z y]/\FB s u y (bp l)) (by
  rintro q v u ⟨k,b,step,acc,rest,hq,rfl,hb,hr,nL,hal⟩
  by_cases hk:k<l.length
  · left
    obtain ⟨u',b',jq,kX,rest',e,hb',hr',B6,Rl⟩:=BJ d h eQ hb hr hk hl ht hal
    exact ⟨_,u',q-1,e,by omega,k+1,b',jq,kX,rest',by omega,rfl,hb',hr',by rw [B6,nL],Rl⟩
  · right
    have hkk:k=l.length:=by omega
    subst hkk
    have:=wG hr (Nat.le_refl _)
    subst this
    rw [List.append_nil] at nL
    subst nL
    refine ⟨.exit 0 [Z b],u,?_,(fun v h=>by cases h),b,rfl,hb⟩
    unfold mw
    simp)
  8192 l.length _ s2 ⟨0,b,0,aP l.length,rest,by omega,rfl,f2',hr,nL,by have:=bF l.length;omega⟩ (by omega)
 refine ⟨y,τ,?_,hF⟩
 rw [zC]
 unfold f155
 have e0:((0:Nat):Int)=0:=rfl
 rw [e0] at lp
 generalize R (d+1)=rr at *
 generalize ((l.length:Nat):Int)=LL at *
 simp [e1,ll,c1,c2,e2,lp,aQ,bK,kN]
theorem Ld (d:Nat) (wf:s.wf) (h:pn s x l) (eQ:∀ c,own x=some c->c<s.size) (hok:Am l=false) (hl:l.length<=8000):∃ t,R (d+2) 155 [Z x] s=some (.eF [.s .ay,.s (.int .i64 1)],t)/\Gr s t:=by
 obtain ⟨s1,e1,g1⟩:=nG d wf h eQ hl
 have ll:=h.lens
 refine ⟨s1,?_,g1⟩
 rw [zC]
 unfold f155
 unfold Am at hok
 cases hr:cH (-1) l with
 | false =>
   rw [hr] at e1
   generalize R (d+1)=rr at *
   simp [e1,aQ,bK]
 | true =>
   rw [hr] at e1 hok
   rw [Bool.true_and] at hok
   have c1:64<((l.length:Nat):Int):=by
    have:¬ l.length<=64:=fun h=>by rw [Nat.ble_eq_true_of_le h] at hok;cases hok
    omega
   generalize R (d+1)=rr at *
   generalize ((l.length:Nat):Int)=LL at *
   simp [e1,ll,c1,aQ,bK]
abbrev mQ (s0 s:St) (x:S) (l:List eU):Prop:=Fr 2 s0 s x l.length (cells cS l)
theorem mQ.lit {e:eU} (h:mQ s0 s x l) (hl:l.length<=1000000) :
 ∃ x' t s',aL s (aS 1 (aG [.int .i64 0,.int .i64 0] [(0,2,AS e)]))=some (Z (.sl s.size 0 1 (.known 1)),s')/\aJ 2 16 (Z x) (Z (.sl s.size 0 1 (.known 1))) s'=some (Z x',t)/\mQ s0 t x' (l++[e])/\s.size<=t.size/\s'=s.push (.cells true (cS e)) ∧
   (∀ b,b<s.size->own x≠some b->t.get b=s.get b)/\(own x'=none\/own x'=own x\/∃ c,own x'=some c/\s.size<=c):=by
 have L:=Fr.lit 2 h.gr.1 (n:=1) (vs:=cells cS [e]) (by simp [cS])
 obtain ⟨x',t,e1,f,hz,k,n⟩:=(h.kY L.gr).nS (by_:=16) (by omega) L.rd.src (by simp [cS]) (by omega)
 refine ⟨x',t,_,rfl,e1,?_,Nat.le_trans L.gr.2.1 hz,rfl,fun b hb hx=>by rw [k b (by have:=L.gr.2.1;omega) hx,L.gr.2.2 b hb],?_⟩
 · unfold mQ
   rw [fD,List.length_append]
   exact f
 · rcases n with n | n | ⟨c,n,hc⟩
   · exact .inl n
   · exact .inr (.inl n)
   · exact .inr (.inr ⟨c,n,by have:=L.gr.2.1;omega⟩)
end
section
variable {s t u s0:St} {x y b lx bx:S} {l acc:List eU} {bs:Bs} {p:Nat} {r:Rr}
theorem mQ.Kt (h:mQ s u lx acc) (hp:s.size<=p) (hx:own lx≠some p) (wf:t.wf) (hz:t.size=u.size) (hk:∀ c,c≠p->t.get c=u.get c):mQ s t lx acc:=by
 refine ⟨⟨wf,by have:=h.gr.2.1;omega,fun c hc=>by rw [hk c (by omega),h.gr.2.2 c hc]⟩,h.ow.keep fun c hc=>hk c fun e=>hx (by rw [hc,e]),fun c hc => ?_⟩
 have:=h.new c hc
 omega
set_option maxHeartbeats 4000000 in
theorem BH (d:Nat) {step:Int} {m cnt:Nat} (hp:s.size<=p) (hr:u.get p=some (.cells true (cR bx r))) (hb:RB s bx bs) (yN:∀ c,own bx=some c->c<s.size) (hl:bs.length<=100000) (ha:r.at_<=bs.length) (hx:mQ s u lx acc) (IM:own lx≠some p)
 (jR:r.bad=false) (hm:acc.length+(m+1)=cnt) (hc:cnt<=64) :
 ∃ u' Bk kX jq r',jg (R (d+2)) 8192 [Z bx,Z (.ptr p 0),Z lx,I .i64 step,I .i64 (cnt:Nat),I .i64 (acc.length:Nat)] u=some (.normal [Z bx,Z (.ptr p 0),Z Bk,I .i64 jq,I .i64 (cnt:Nat),I .i64 (kX.length:Nat)],u') ∧
   u'.get p=some (.cells true (cR bx r'))/\r'.at_<=bs.length/\mQ s u' Bk kX/\own Bk≠some p/\kX.length=acc.length+1/\fE bs m kX jq r'=fE bs (m+1) acc step r:=by
 have wf:=hx.gr.wf
 have YC:=wf.lt hr
 have rb:∀ {v:St},Gr s v->RB v bx bs:=fun g=>Rd.gr hb yN g
 have c0:((acc.length:Nat):Int)<((cnt:Nat):Int):=by omega
 have w1:IntKind.i64.wrap ((acc.length:Int)+1)=((acc.length+1:Nat):Int):=by rw [aE _ (by omega) (by omega)];omega
 have q2:ab (Z (.ptr p 2)) u.get=some (B false):=ai hr (by simp [cR,jR])
 obtain ⟨u1,e1,b1,z1,mW,a1,n1,k1⟩:=yb d wf hr (rb hx.gr) hl ha
 have hx1:=hx.Kt hp IM mW z1 k1
 have v1:=yG (s:=u1) (d+1) n1
 have i1:aI .i64 (I .u64 (((nx bs r).1:Nat):Int))=some (I .i64 (W6 ((nx bs r).1:Nat))):=by rw [aY]
 cases hla:acc.getLast? with
 | none =>
   have hac:acc=[]:=List.getLast?_eq_none_iff.1 hla
   subst hac
   obtain ⟨u2,e2,b2,z2,Ss,a2,n2,k2⟩:=yb d mW b1 (rb hx1.gr) hl a1
   have hx2:=hx1.Kt hp IM Ss z2 k2
   have v2:=yG (s:=u2) (d+1) n2
   obtain ⟨e,he⟩:∃ e:eU,e=⟨W6 ((nx bs r).1:Nat),lC (nx bs (nx bs r).2).1⟩:=⟨_,rfl⟩
   obtain ⟨x',u4,u3,nw,ap,f4,z4,IG,k4,n4⟩:=mQ.lit (e:=e) hx2 (by simp)
   have hx':own x'≠some p:=fun h=>by
    rcases n4 with n | n | ⟨c,n,hc⟩
    · rw [n] at h;cases h
    · rw [n] at h;exact IM h
    · rw [n] at h;cases h;omega
   refine ⟨u4,x',[e],step,(nx bs (nx bs r).2).2,?_,by rw [k4 p (by omega) IM];exact b2,a2,f4,hx',rfl,?_⟩
   · unfold jg
     have ag:aU (aG [.int .i64 0,.int .i64 0] [(0,1,I .i64 (W6 ((nx bs r).1:Nat))),(1,1,I .i64 (lC (nx bs (nx bs r).2).1))])=some (AS e):=by rw [he];rfl
     have k0:(([]:List eU).length:Int)=0:=rfl
     have k1':(([e]:List eU).length:Int)=1:=rfl
     rw [k0] at c0 ⊢
     rw [k1']
     have w2:IntKind.i64.wrap 1=1:=rfl
     clear he
     generalize R (d+2)=rr at *
     generalize W6 (((nx bs r).1:Nat):Int)=A1 at *
     generalize (((nx bs r).1:Nat):Int)=A2 at *
     generalize lC (nx bs (nx bs r).2).1=A3 at *
     generalize (((nx bs (nx bs r).2).1:Nat):Int)=A4 at *
     generalize ((cnt:Nat):Int)=CC at *
     simp [c0,q2,e1,i1,e2,v2,ag,nw,ap,w2]
   · rw [fE]
     simp [jR,he]
 | some was =>
   have hne:0<acc.length:=by
    cases acc with
    | nil=>cases hla
    | cons _ _=>simp
   obtain ⟨k,hk⟩:∃ k,acc.length=k+1:=⟨acc.length-1,by omega⟩
   have hwk:acc[k]? = some was:=by
    rw [List.getLast?_eq_getElem?] at hla
    rwa [hk,Nat.add_sub_cancel] at hla
   have c1:¬ ((acc.length:Nat):Int)=0:=by omega
   have w2:IntKind.i64.wrap (((acc.length:Nat):Int)-1)=((k:Nat):Int):=by rw [aE _ (by omega) (by omega)];omega
   obtain ⟨c',p',ix,ld,_,_⟩:=pn.Eo hx1.rd (n:=((k:Nat):Int)) rfl hwk
   obtain ⟨u2,u3,e2,e3,g3,b3,z3,l0,l1⟩:=PY mW was
   have hr3:u3.get p=some (.cells true (cR bx (nx bs r).2)):=g3.get b1 mW
   have NC:mQ s u3 lx acc:=Fr.kY hx1 g3
   obtain ⟨u4,e4,b4,z4,OU,a4,n4,k4⟩:=yb d g3.wf hr3 (rb NC.gr) hl a1
   have hx4:=NC.Kt hp IM OU z4 k4
   have v4:=yG (s:=u4) (d+1) n4
   have Tf:u4.get u1.size=some (.cells true (cS was)):=by rw [k4 _ (by omega)];exact b3
   obtain ⟨e,he⟩:∃ e:eU,e=⟨W6 (was.t+W6 (step+lC (nx bs r).1)),W6 (was.v+lC (nx bs (nx bs r).2).1)⟩:=⟨_,rfl⟩
   obtain ⟨x',u6,u5,nw,ap,f6,z6,hu5,k6,n6⟩:=mQ.lit (e:=e) hx4 (by omega)
   have hx':own x'≠some p:=fun h=>by
    rcases n6 with n | n | ⟨c,n,hc⟩
    · rw [n] at h;cases h
    · rw [n] at h;exact IM h
    · rw [n] at h;cases h;omega
   have hlen:(acc++[e]).length=acc.length+1:=by simp
   have RD:∀ (P:Nat) (y:K3) (q j:Nat) (bk:dV),(q,j,bk)∈Cx P u4.size y []->j≠u1.size:=fun P y q j bk hm=>by
    rcases yd hm with rfl | hm
    · omega
    · cases hm
   refine ⟨u6,x',acc++[e],W6 (step+lC (nx bs r).1),(nx bs (nx bs r).2).2,?_,by rw [k6 p (by omega) IM];exact b4,a4,f6,hx',hlen,?_⟩
   · have o1:∀ P y,ab (Z (.ptr u1.size 0)) (cA P u4.get (Cx 12 u4.size y []))=some (I .i64 was.t):=fun P y=>(DO Tf b3 (x := .int .i64 was.t) rfl (RD _ _)).trans l0
     have o2:∀ P y,ab (Z (.ptr u1.size 1)) (cA P u4.get (Cx 12 u4.size y []))=some (I .i64 was.v):=fun P y=>(DO Tf b3 (x := .int .i64 was.v) rfl (RD _ _)).trans l1
     have s1:af .add (I .i64 step) (I .i64 (lC (nx bs r).1))=some (I .i64 (W6 (step+lC (nx bs r).1))):=by rw [dH]
     have s2:af .add (I .i64 was.t) (I .i64 (W6 (step+lC (nx bs r).1)))=some (I .i64 (W6 (was.t+W6 (step+lC (nx bs r).1)))):=by rw [dH]
     have s3:af .add (I .i64 was.v) (I .i64 (lC (nx bs (nx bs r).2).1))=some (I .i64 (W6 (was.v+lC (nx bs (nx bs r).2).1))):=by rw [dH]
     have ag:aU (aG [.int .i64 0,.int .i64 0] [(0,1,I .i64 (W6 (was.t+W6 (step+lC (nx bs r).1)))),(1,1,I .i64 (W6 (was.v+lC (nx bs (nx bs r).2).1)))])=some (AS e):=by rw [he];rfl
     unfold jg
     rw [hlen]
     clear he RD
     generalize R (d+2)=rr at *
     generalize W6 (was.t+W6 (step+lC (nx bs r).1))=T1 at *
     generalize W6 (step+lC (nx bs r).1)=T2 at *
     generalize W6 (was.v+lC (nx bs (nx bs r).2).1)=T3 at *
     generalize lC (nx bs (nx bs r).2).1=A3 at *
     generalize lC (nx bs r).1=A5 at *
     generalize (((nx bs (nx bs r).2).1:Nat):Int)=A4 at *
     generalize (((nx bs r).1:Nat):Int)=A2 at *
     generalize u1.size=us at *
     generalize ((acc.length+1:Nat):Int)=N1 at *
     generalize ((acc.length:Nat):Int)=N0 at *
     generalize ((k:Nat):Int)=K0 at *
     generalize ((cnt:Nat):Int)=CC at *
     simp [c0,q2,c1,e1,v1,s1,w2,ix,ld,e2,e3,l0,s2,l1,e4,v4,s3,ag,nw,ap,w1,o1,o2]
   · rw [fE]
     simp [jR,he,hla]
theorem xC (bs:Bs) (hn:∀ r,(nx bs r).1<2 ^ 64):∀ (m:Nat) (acc:List eU) (step:Int) (r:Rr),(∀ a∈acc,I6 a.v)->∀ a∈(fE bs m acc step r).1,I6 a.v
 | 0,acc,step,r,h,a,ha=>h a ha
 | m+1,acc,step,r,h,a,ha=>by
   rw [fE] at ha
   split at ha
   · exact h a ha
   · split at ha
     · refine xC bs hn m _ _ _ (fun b hb => ?_) a ha
       rw [List.mem_singleton] at hb
       rw [hb]
       exact Sv (hn _)
     · refine xC bs hn m _ _ _ (fun b hb => ?_) a ha
       rcases List.mem_append.1 hb with hb | hb
       · exact h b hb
       · rw [List.mem_singleton] at hb
         rw [hb]
         exact iX _
theorem Ve (bs:Bs) (r:Rr):(nx bs r).1<2 ^ 64:=by
 unfold nx
 cases h:jW bs r.at_ with
 | none=>exact (show (0:Nat)<2 ^ 64 by decide)
 | some o=>exact A9 h
theorem tg (bs:Bs):∀ (m:Nat) (acc:List eU) (step:Int) (r:Rr),(fE bs m acc step r).1.length<=acc.length+m
 | 0,acc,step,r=>by simp [fE]
 | m+1,acc,step,r=>by
   rw [fE]
   split
   · simp
   · split
     · rename_i h
       have:=tg bs m [⟨W6 (nx bs r).1,lC (nx bs (nx bs r).2).1⟩] step (nx bs (nx bs r).2).2
       simp at this
       have h0:acc=[]:=List.getLast?_eq_none_iff.1 h
       subst h0
       simp
       omega
     · rename_i was h
       have:=tg bs m (acc++[⟨W6 (was.t+W6 (step+lC (nx bs r).1)),W6 (was.v+lC (nx bs (nx bs r).2).1)⟩]) (W6 (step+lC (nx bs r).1)) (nx bs (nx bs r).2).2
       simp at this
       omega
set_option maxHeartbeats 2000000 in
theorem Er (d:Nat) {cnt m:Nat} {step:Int} (hp:s.size<=p) (hr:u.get p=some (.cells true (cR bx r))) (hb:RB s bx bs) (yN:∀ c,own bx=some c->c<s.size) (hl:bs.length<=100000) (ha:r.at_<=bs.length) (hx:mQ s u lx acc) (IM:own lx≠some p)
 (hm:acc.length+m=cnt) (hc:cnt<=64) :
 ∃ u' Bk,loops (jg (R (d+2)) 8192) 8192 [Z bx,Z (.ptr p 0),Z lx,I .i64 step,I .i64 (cnt:Nat),I .i64 (acc.length:Nat)] u=some (.exit 0 [Z bx,Z (.ptr p 0),Z Bk],u') ∧
   u'.get p=some (.cells true (cR bx (fE bs m acc step r).2))/\mQ s u' Bk (fE bs m acc step r).1:=by
 obtain ⟨D,hD⟩:∃ D,D=fE bs m acc step r:=⟨_,rfl⟩
 obtain ⟨j,τ,lp,Bk,rfl,h1,h2⟩:=aV (f:=jg (R (d+2)) 8192)
  (fun q v u=>∃ (lx:S) (acc:List eU) (step:Int) (r:Rr),acc.length+q=cnt/\v=[Z bx,Z (.ptr p 0),Z lx,I .i64 step,I .i64 (cnt:Nat),I .i64 (acc.length:Nat)]/\u.get p=some (.cells true (cR bx r))/\r.at_<=bs.length/\mQ s u lx acc/\own lx≠some p/\fE bs q acc step r=D)
  (fun j u=>∃ lx,j = .exit 0 [Z bx,Z (.ptr p 0),Z lx]/\u.get p=some (.cells true (cR bx D.2))/\mQ s u lx D.1) (by
  rintro q v u ⟨lx,acc,step,r,hq,rfl,hr,ha,hx,IM,hd⟩
  cases q with
  | zero =>
    right
    have hk:acc.length=cnt:=by omega
    refine ⟨.exit 0 [Z bx,Z (.ptr p 0),Z lx],u,?_,(fun v h=>by cases h),lx,rfl,by rw [← hd];exact hr,by rw [← hd];exact hx⟩
    unfold jg
    rw [hk]
    simp
  | succ q =>
    cases jR:r.bad with
    | true =>
      right
      have q2:ab (Z (.ptr p 2)) u.get=some (B true):=ai hr (by simp [cR,jR])
      have c0:((acc.length:Nat):Int)<((cnt:Nat):Int):=by omega
      have ky:D=(acc,r):=by rw [← hd,fE,if_pos jR]
      refine ⟨.exit 0 [Z bx,Z (.ptr p 0),Z lx],u,?_,(fun v h=>by cases h),lx,rfl,by rw [ky];exact hr,by rw [ky];exact hx⟩
      unfold jg
      generalize ((acc.length:Nat):Int)=N0 at *
      generalize ((cnt:Nat):Int)=CC at *
      simp [c0,q2]
    | false =>
      left
      obtain ⟨u',Bk,kX,jq,r',e,b',a',f',x',l',d'⟩:=BH d hp hr hb yN hl ha hx IM jR hq hc (step:=step)
      exact ⟨_,u',q,e,rfl,Bk,kX,jq,r',by omega,rfl,b',a',f',x',by rw [d',hd]⟩)
  8192 m _ u ⟨lx,acc,step,r,hm,rfl,hr,ha,hx,IM,hD.symm⟩ (by omega)
 rw [← hD]
 exact ⟨τ,Bk,lp,h1,h2⟩
def CL (o:Option (List eU)) (y:S):T:=match o with
 | some l => .eF [.s y,.s (.int .i64 0)]
 | none => .eF [.s .ay,.s (.int .i64 2)]
set_option maxHeartbeats 4000000 in
theorem GR (d:Nat) (wf:s.wf) (hb:RB s bx bs) (yN:∀ c,own bx=some c->c<s.size) (hl:bs.length<=8000):∃ y t,R (d+4) 119 [Z bx] s=some (CL (uT bs) y,t)/\Gr s t/\∀ l,uT bs=some l->mQ s t y l:=by
 obtain ⟨s1,hs1⟩:∃ s1,s1=s.push (.cells true (cR bx ⟨0,false⟩)):=⟨_,rfl⟩
 have ag:aU (aG [.ay,.int .i64 0,.bool false] [(0,1,Z bx)])=some (.v (.agg (cR bx ⟨0,false⟩))):=rfl
 have nw:aL s (cf (.v (.agg (cR bx ⟨0,false⟩))))=some (Z (.ptr s.size 0),s1):=by rw [hs1];rfl
 have g1:Gr s s1:=by rw [hs1];exact Gr.push wf _
 have b1:s1.get s.size=some (.cells true (cR bx ⟨0,false⟩)):=by rw [hs1];exact St.aq _ _
 have uU:RB s1 bx bs:=Rd.gr hb yN g1
 obtain ⟨s2,e2,b2,z2,Ss,a2,l2,k2⟩:=Lh d g1.wf b1 uU (by omega) (Nat.zero_le _) (most:=64) (by decide)
 have g2:Gr s s2:=⟨Ss,by have:=g1.2.1;omega,fun c hc=>by rw [k2 c (by omega),g1.2.2 c hc]⟩
 have x2:mQ s s2 .ay []:=⟨g2,Ow.nil 2 s2,fun c hc=>by cases hc⟩
 obtain ⟨s3,lx,lp,b3,f3⟩:=Er (d+1) (step:=0) (m:=(fw bs 64 ⟨0,false⟩).1) (Nat.le_refl _) b2 hb yN (by omega) a2 x2 (fun h=>by cases h) (by simp) l2
 obtain ⟨l,hL⟩:∃ l,l=(fE bs (fw bs 64 ⟨0,false⟩).1 [] 0 (fw bs 64 ⟨0,false⟩).2).1:=⟨_,rfl⟩
 obtain ⟨bad,hB⟩:∃ b,b=(fE bs (fw bs 64 ⟨0,false⟩).1 [] 0 (fw bs 64 ⟨0,false⟩).2).2.bad:=⟨_,rfl⟩
 have hv:∀ a∈l,I6 a.v:=by rw [hL];exact xC bs (Ve bs) _ _ _ _ (fun a ha=>by cases ha)
 have eo:l.length<=64:=by
  have:=tg bs (fw bs 64 ⟨0,false⟩).1 [] 0 (fw bs 64 ⟨0,false⟩).2
  rw [← hL] at this
  simp at this
  omega
 rw [← hL] at f3
 have hG:uT bs=if (bad || !Am l)=true then none else if bp l=bs then some l else none:=by unfold uT;rw [hL,hB]
 have Ix:∀ c,own lx=some c->c<s3.size:=fun c hc=>(f3.new c hc).2
 rw [Hi]
 unfold f119
 have e0:(([]:List eU).length:Int)=0:=rfl
 rw [e0] at lp
 have e64:((64:Nat):Int)=64:=rfl
 rw [e64] at e2
 cases hok:Am l with
 | false =>
   obtain ⟨s4,e4,g4⟩:=Ld (d+1) f3.gr.wf f3.rd Ix hok (by omega)
   have q2:ab (Z (.ptr s.size 2)) s4.get=some (B bad):=ai (g4.get b3 f3.gr.wf) (by rw [hB];rfl)
   have hg:uT bs=none:=by rw [hG,if_pos (by rw [hok];simp)]
   rw [hg]
   refine ⟨.ay,s4,?_,f3.gr.trans g4,fun l h=>by cases h⟩
   generalize R (d+3)=rr at *
   generalize s.size=p at *
   generalize (((fw bs 64 ⟨0,false⟩).1:Nat):Int)=CC at *
   cases bad with
   | true=>simp [ag,nw,e2,lp,e4,ah,q2,aQ,bK,CL]
   | false=>simp [ag,nw,e2,lp,e4,ah,q2,aQ,bK,CL]
 | true =>
   obtain ⟨y,s4,e4,f4⟩:=zk (d+1) f3.gr.wf f3.rd Ix hok hv
   have q2:ab (Z (.ptr s.size 2)) s4.get=some (B bad):=ai (f4.gr.get b3 f3.gr.wf) (by rw [hB];rfl)
   have h4:RB s4 bx bs:=Rd.gr hb yN (f3.gr.trans f4.gr)
   have e5:=xp (d+2) f4.rd h4
   simp only [Nat.add_assoc,Nat.reduceAdd] at e4 e5
   cases bad with
   | true =>
     have hg:uT bs=none:=by rw [hG,if_pos (by simp)]
     rw [hg]
     refine ⟨.ay,s4,?_,f3.gr.trans f4.gr,fun l h=>by cases h⟩
     generalize R (d+3)=rr at *
     generalize s.size=p at *
     generalize (((fw bs 64 ⟨0,false⟩).1:Nat):Int)=CC at *
     simp [ag,nw,e2,lp,e4,ah,q2,aQ,bK,CL]
   | false =>
     by_cases he:bp l=bs
     · have hg:uT bs=some l:=by rw [hG,hok];simp [he]
       rw [hg]
       refine ⟨lx,s4,?_,f3.gr.trans f4.gr,fun l' h=>by
        cases h
        exact Fr.kY f3 f4.gr⟩
       rw [decide_eq_true he] at e5
       generalize R (d+3)=rr at *
       generalize s.size=p at *
       generalize (((fw bs 64 ⟨0,false⟩).1:Nat):Int)=CC at *
       simp [ag,nw,e2,lp,e4,ah,q2,e5,aQ,bK,CL]
     · have hg:uT bs=none:=by rw [hG,hok];simp [he]
       rw [hg]
       refine ⟨.ay,s4,?_,f3.gr.trans f4.gr,fun l h=>by cases h⟩
       rw [decide_eq_false he] at e5
       generalize R (d+3)=rr at *
       generalize s.size=p at *
       generalize (((fw bs 64 ⟨0,false⟩).1:Nat):Int)=CC at *
       simp [ag,nw,e2,lp,e4,ah,q2,e5,aQ,bK,CL]
end
structure Sg where
 i:Int
 f:Int
 o:Int
 l:List eU
structure j4 (g:Sg):Prop where
 i1:1<=g.i
 i2:g.i<=1073741824
 f0:0<=g.f
 fo:g.f<g.o
 o2:g.o<=1099511627776
 ne:g.l≠[]
 ok:Am g.l=true
 vs:∀ a∈g.l,I6 a.v
 lo:∀ a,g.l[0]? = some a->g.f<=a.t
 hi:∀ a,g.l.getLast? = some a->a.t<g.o
def ja (g:Sg):Bs:=[84,75]++(aP g.i.toNat++(aP 0++(aP g.f.toNat++aP (g.o-g.f).toNat)))
def bo (g:Sg):Bs:=ja g++bp g.l
def cJ (g:Sg):Bs:=bo g++four (bT 1 (bo g))
def cG (g:Sg) (x:S):List S:=[.int .i64 g.i,.int .i64 0,.int .i64 g.f,.int .i64 g.o,x,.ay]
abbrev AG (g:Sg) (x:S):T := .v (.agg (cG g x))
theorem Aw:∀ (l:List eU) (step:Int) (was:eU),(fU step was l).length<=22*l.length
 | [],_,_=>by simp [fU]
 | a::r,step,was=>by
   have h1:=Aw r (W6 (a.t-was.t)) a
   have h2:=bF (dF (W6 (W6 (a.t-was.t)-step)))
   have h3:=bF (dF (W6 (a.v-was.v)))
   simp only [fU,List.length_append,List.length_cons]
   omega
theorem sY (l:List eU):(bp l).length<=11+22*l.length:=by
 cases l with
 | nil=>have:=bF 0;simp [bp];omega
 | cons a r =>
   have h1:=Aw r 0 a
   have h2:=bF (r.length+1)
   have h3:=bF a.t.toNat
   have h4:=bF (dF a.v)
   simp only [bp,iO,List.length_append,List.length_cons]
   omega
theorem Ir (g:Sg):(ja g).length<=46:=by
 have h1:=bF g.i.toNat
 have h2:=bF 0
 have h3:=bF g.f.toNat
 have h4:=bF (g.o-g.f).toNat
 simp only [ja,List.length_append,List.length_cons,List.length_nil]
 omega
theorem j4.Dj {g:Sg} (h:j4 g):g.l.length<=64:=by
 have h':=h.ok
 unfold Am at h'
 rw [Bool.and_eq_true] at h'
 exact Nat.le_of_ble_eq_true h'.2
theorem iA {g:Sg} (h:j4 g):(bo g).length<=1500:=by
 have h1:=sY g.l
 have h2:=Ir g
 have h3:=h.Dj
 simp only [bo,List.length_append]
 omega
theorem jV {g:Sg} (h:j4 g):(cJ g).length=(bo g).length+4:=by simp [cJ,four]
section
variable {s t u s0:St} {x y b lx bx:S} {l acc:List eU} {bs:Bs} {p:Nat} {r:Rr} {g:Sg}
theorem Is (d:Nat) (h:j4 g):R (d+1) 199 [I .i64 g.i,I .i64 0,I .i64 g.f,I .i64 g.o] s=some (B true,s):=by
 rw [HT]
 unfold f199
 have h1:=h.i1
 have h2:=h.i2
 have h3:=h.f0
 have h4:=h.fo
 have h5:=h.o2
 simp [h1,h2,h3,h4,h5]
theorem nB {i:Nat} {w:Bool} {m:Mem} (h:m i=some (.cells w (cG g x))):aH 6 (Z (.ptr i 0)) m=some (AG g x):=by
 simp [aH,h,cG]
theorem mN {i:Nat} {vs:List S} (h:s.get i=some (.cells true vs)) (hv:vs.length=6):aw 6 (Z (.ptr i 0)) (AG g x) s=some (tt,s.set i (.cells true (cG g x))):=by
 have hb:(V.agg (cG g x)).cells.length=6/\0+6<=vs.length:=⟨rfl,by omega⟩
 simp only [aw,h,if_pos hb]
 rw [show (V.agg (cG g x)).cells=cG g x from rfl,eD (by rw [hv];rfl)]
set_option maxHeartbeats 1000000 in
theorem Ki (d:Nat) (wf:s.wf) (h:j4 g) (hx:pn s x g.l) (eQ:∀ c,own x=some c->c<s.size):∃ t,R (d+2) 158 [AG g x] s=some (B true,t)/\Gr s t:=by
 obtain ⟨s1,hs1⟩:∃ s1,s1=s.push (.cells true (cG g x)):=⟨_,rfl⟩
 have nw:aL s (cf (AG g x))=some (Z (.ptr s.size 0),s1):=by rw [hs1];rfl
 have g1:Gr s s1:=by rw [hs1];exact Gr.push wf _
 have b1:s1.get s.size=some (.cells true (cG g x)):=by rw [hs1];exact St.aq _ _
 have q0:ab (Z (.ptr s.size 0)) s1.get=some (I .i64 g.i):=ai b1 rfl
 have q1:ab (Z (.ptr s.size 1)) s1.get=some (I .i64 0):=ai b1 rfl
 have q2:ab (Z (.ptr s.size 2)) s1.get=some (I .i64 g.f):=ai b1 rfl
 have q3:ab (Z (.ptr s.size 3)) s1.get=some (I .i64 g.o):=ai b1 rfl
 have q4:ab (Z (.ptr s.size 4)) s1.get=some (Z x):=ai b1 rfl
 have q5:ab (Z (.ptr s.size 5)) s1.get=some (Z .ay):=ai b1 rfl
 have e1:=Is (s:=s1) d h
 have hx1:=hx.gr eQ g1
 have uX:∀ c,own x=some c->c<s1.size:=fun c hc=>Nat.lt_of_lt_of_le (eQ c hc) g1.2.1
 have hf:=h.Dj
 obtain ⟨s3,e3,g3⟩:=nG d g1.wf hx1 uX (by omega)
 have hok:=h.ok
 unfold Am at hok
 rw [Bool.and_eq_true] at hok
 rw [hok.1] at e3
 have b3:=g3.get b1 g1.wf
 have p2:ab (Z (.ptr s.size 2)) s3.get=some (I .i64 g.f):=ai b3 rfl
 have p3:ab (Z (.ptr s.size 3)) s3.get=some (I .i64 g.o):=ai b3 rfl
 have p4:ab (Z (.ptr s.size 4)) s3.get=some (Z x):=ai b3 rfl
 have NC:=hx1.gr uX g3
 have hpos:0<g.l.length:=List.length_pos_iff.2 h.ne
 obtain ⟨a,ha⟩:∃ a,g.l[0]? = some a:=⟨_,List.getElem?_eq_getElem hpos⟩
 obtain ⟨z,hz⟩:∃ z,g.l[g.l.length-1]? = some z:=⟨_,List.getElem?_eq_getElem (by omega)⟩
 have uY:g.l.getLast? = some z:=by rw [List.getLast?_eq_getElem?];exact hz
 have h1:=h.lo a ha
 have h2:=h.hi z uY
 obtain ⟨ca,pa,ia,_,la,_⟩:=pn.Eo NC (n:=0) (j:=0) rfl ha
 obtain ⟨cz,pz,iz,_,lz,_⟩:=pn.Eo NC (n:=((g.l.length:Nat):Int)-1) (j:=g.l.length-1) (by omega) hz
 have ll:=hx1.lens
 have w1:IntKind.i64.wrap (((g.l.length:Nat):Int)-1)=((g.l.length:Nat):Int)-1:=aE _ (by omega) (by omega)
 have c1:(1:Int)<=((g.l.length:Nat):Int):=by omega
 have c2:((g.l.length:Nat):Int)<=64:=by omega
 refine ⟨s3,?_,g1.trans g3⟩
 rw [Hw]
 unfold f158
 generalize R (d+1)=rr at *
 generalize s.size=ss at *
 generalize ((g.l.length:Nat):Int)=LL at *
 simp [nw,q0,q1,q2,q3,e1,q4,q5,ll,c1,c2,e3,p4,ia,la,p2,h1,w1,iz,lz,p3,h2,wq,kN]
def dA:List Nat->Bs
 | []=>[]
 | n::r=>aP n++dA r
theorem mG:∀ a b:List Nat,dA (a++b)=dA a++dA b
 | [],b=>rfl
 | n::r,b=>by simp [dA,mG r b,List.append_assoc]
def bY (g:Sg):List Nat:=[g.i.toNat,0,g.f.toNat,(g.o-g.f).toNat]
theorem oz (g:Sg):ja g=[84,75]++dA (bY g):=by simp [ja,bY,dA]
theorem Al {g:Sg} (h:j4 g):∀ n∈bY g,n<=1099511627776:=by
 intro n hn
 have h2:=h.i2
 have h5:=h.o2
 have h4:=h.fo
 have h3:=h.f0
 simp only [bY,List.mem_cons,List.not_mem_nil,or_false] at hn
 rcases hn with rfl | rfl | rfl | rfl<;>omega
theorem wx:∀ l:List Nat,(dA l).length<=11*l.length
 | []=>by simp [dA]
 | n::r=>by
   have h1:=wx r
   have h2:=bF n
   simp only [dA,List.length_append,List.length_cons]
   omega
theorem FH (d:Nat) {T0:T} {R6:S} (hb:FB s u b bs) (hn:Rd 1 u R6 4 ((bY g).map fun n:Nat=>S.int .u64 (n:Int))) (Ph:∀ c,own R6=some c->c<u.size/\own b≠some c) (h:j4 g) (hl:bs.length<=1000) :
 ∃ b' u',loops (nY (R (d+1)) 8192) 8192 [T0,Z b,Z R6,I .i64 4,I .i64 0] u=some (.exit 0 [T0,Z b'],u')/\FB s u' b' (bs++dA (bY g)):=by
 obtain ⟨j,τ,lp,b',rfl,hF⟩:=aV (f:=nY (R (d+1)) 8192)
  (fun q v w=>∃ (k:Nat) (b:S),q+k=4/\v=[T0,Z b,Z R6,I .i64 4,I .i64 (k:Nat)]/\FB s w b (bs++dA ((bY g).take k))/\Rd 1 w R6 4 ((bY g).map fun n:Nat=>S.int .u64 (n:Int))/\(∀ c,own R6=some c->c<w.size/\own b≠some c))
  (fun j w=>∃ b,j = .exit 0 [T0,Z b]/\FB s w b (bs++dA (bY g))) (by
  rintro q v w ⟨k,b,hq,rfl,hb,hn,Ph⟩
  by_cases hk:k<4
  · left
    have hlen:(bY g).length=4:=rfl
    obtain ⟨n,hne⟩:∃ n,n=(bY g)[k]'(by omega):=⟨_,rfl⟩
    have hnk:(bY g)[k]? = some n:=by rw [List.getElem?_eq_getElem (by omega),hne]
    have Yn:=Al h n (List.mem_of_getElem? hnk)
    obtain ⟨P,ix,ld⟩:=hn.yJ (i:=((k:Nat):Int)) (j:=k) (v:=S.int .u64 ((n:Nat):Int)) rfl (by rw [List.getElem?_map,hnk];rfl)
    obtain ⟨y1,w1,e1,f1⟩:=fO d hb.gr.wf n (by omega)
    have nL:(bs++dA ((bY g).take k)).length<=1100:=by
     have:=wx ((bY g).take k)
     rw [List.length_take] at this
     rw [List.length_append]
     omega
    obtain ⟨b2,w2,e2,f2,z2,k2,n2⟩:=FB.PQ (Fr.kY hb f1.gr) f1.rd (by have:=bF n;omega)
    have c0:((k:Nat):Int)<4:=by omega
    have wi:IntKind.i64.wrap ((k:Int)+1)=((k+1:Nat):Int):=by rw [aE _ (by omega) (by omega)];omega
    have lh:(bY g).take (k+1)=(bY g).take k++[n]:=by rw [List.take_add_one,hnk];rfl
    have z1:=f1.gr.2.1
    refine ⟨[T0,Z b2,Z R6,I .i64 4,I .i64 ((k+1:Nat):Int)],w2,q-1,?_,by omega,k+1,b2,by omega,rfl,?_,hn.keep fun c hc => ?_,fun c hc=>⟨by have:=Ph c hc;omega,fun iE => ?_⟩⟩
    · unfold nY
      generalize R (d+1)=rr at *
      generalize ((k+1:Nat):Int)=K1 at *
      generalize ((k:Nat):Int)=K0 at *
      generalize ((n:Nat):Int)=NN at *
      simp [c0,ix,ld,e1,e2,wi]
    · rw [lh,mG,← List.append_assoc]
      simpa [dA] using f2
    · rw [k2 c (by have:=Ph c hc;omega) (Ph c hc).2,f1.gr.2.2 c (Ph c hc).1]
    · rcases n2 with e | e | ⟨c',e,gO⟩
      · rw [e] at iE;cases iE
      · rw [e] at iE;exact (Ph c hc).2 iE
      · rw [e] at iE;cases iE;have:=Ph c hc;omega
  · right
    have hkk:k=4:=by omega
    subst hkk
    have hlen:(bY g).take 4=bY g:=rfl
    rw [hlen] at hb
    refine ⟨.exit 0 [T0,Z b],w,?_,(fun v h=>by cases h),b,rfl,hb⟩
    unfold nY
    have:((4:Nat):Int)=4:=rfl
    rw [this]
    simp)
  8192 4 _ u ⟨0,b,by omega,rfl,by simpa [dA] using hb,hn,Ph⟩ (by decide)
 exact ⟨b',τ,lp,hF⟩
end
section
variable {s t u s0:St} {x y b lx bx:S} {l acc:List eU} {bs:Bs} {p:Nat} {r:Rr} {g:Sg}
theorem Kh (d:Nat) (wf:s.wf) (q:Nat):∃ y t,R (d+1) 160 [I .u32 q] s=some (Z y,t)/\FB s t y (four q):=by
 rw [Hy]
 unfold f160
 have nw:=R1 s (q%256) (q / 2 ^ 8%256) (q / 2 ^ 16%256) (q / 2 ^ 24%256)
 have hU:U (four q)=[.int .u8 (q%256:Nat),.int .u8 (q / 2 ^ 8%256:Nat),.int .u8 (q / 2 ^ 16%256:Nat),.int .u8 (q / 2 ^ 24%256:Nat)]:=by
  simp only [U,four,List.map_cons,List.map_nil,ed]
 rw [← hU] at nw
 have c0:=fP q
 have c1:=fP (q / 2 ^ 8)
 have c2:=fP (q / 2 ^ 16)
 have c3:=fP (q / 2 ^ 24)
 have r1:af .shr (I .u32 q) (I .u64 8)=some (I .u32 ((q / 2 ^ 8:Nat))):=eX .u32 q 8 (by decide)
 have r2:af .shr (I .u32 q) (I .u64 16)=some (I .u32 ((q / 2 ^ 16:Nat))):=eX .u32 q 16 (by decide)
 have r3:af .shr (I .u32 q) (I .u64 24)=some (I .u32 ((q / 2 ^ 24:Nat))):=eX .u32 q 24 (by decide)
 refine ⟨_,_,?_,Fr.lit 1 wf (n:=4) (vs:=U (four q)) rfl⟩
 generalize s.push (.cells true (U (four q)))=t at nw ⊢
 generalize ((q / 2 ^ 8%256:Nat):Int)=a1 at nw c1 ⊢
 generalize ((q / 2 ^ 16%256:Nat):Int)=a2 at nw c2 ⊢
 generalize ((q / 2 ^ 24%256:Nat):Int)=a3 at nw c3 ⊢
 generalize ((q%256:Nat):Int)=a0 at nw c0 ⊢
 generalize ((q / 2 ^ 8:Nat):Int)=b1 at r1 c1 ⊢
 generalize ((q / 2 ^ 16:Nat):Int)=b2 at r2 c2 ⊢
 generalize ((q / 2 ^ 24:Nat):Int)=b3 at r3 c3 ⊢
 generalize ((q:Nat):Int)=b0 at *
 simp [c0,r1,c1,r2,c2,r3,c3,nw]
set_option maxHeartbeats 4000000 in
theorem Kj (d:Nat) (wf:s.wf) (h:j4 g) (hx:pn s x g.l) (eQ:∀ c,own x=some c->c<s.size):∃ y t,R (d+3) 121 [AG g x] s=some (.eF [.s y,.s (.int .i64 0)],t)/\FB s t y (cJ g):=by
 obtain ⟨s1,hs1⟩:∃ s1,s1=s.push (.cells true (cG g x)):=⟨_,rfl⟩
 have nw:aL s (cf (AG g x))=some (Z (.ptr s.size 0),s1):=by rw [hs1];rfl
 have g1:Gr s s1:=by rw [hs1];exact Gr.push wf _
 have b1:s1.get s.size=some (.cells true (cG g x)):=by rw [hs1];exact St.aq _ _
 have q6:=nB (m:=s1.get) b1
 have hx1:=hx.gr eQ g1
 have uX:∀ c,own x=some c->c<s1.size:=fun c hc=>Nat.lt_of_lt_of_le (eQ c hc) g1.2.1
 obtain ⟨s2,e2,g2⟩:=Ki d g1.wf h hx1 uX
 have b2:=g2.get b1 g1.wf
 have L4:=Fr.lit 1 g2.wf (n:=2) (vs:=U [84,75]) rfl
 obtain ⟨s4,hs4⟩:∃ s4,s4=s2.push (.cells true (U [84,75])):=⟨_,rfl⟩
 rw [← hs4] at L4
 have ya:aL s2 (aS 2 (aG [.int .u8 0,.int .u8 0] [(0,1,(I .u8 84)),(1,1,(I .u8 75))]))=some (Z (.sl s2.size 0 2 (.known 2)),s4):=by rw [hs4];rfl
 have b4:=L4.gr.get b2 g2.wf
 have q0:ab (Z (.ptr s.size 0)) s4.get=some (I .i64 g.i):=ai b4 rfl
 have q1:ab (Z (.ptr s.size 1)) s4.get=some (I .i64 0):=ai b4 rfl
 have q2:ab (Z (.ptr s.size 2)) s4.get=some (I .i64 g.f):=ai b4 rfl
 have q3:ab (Z (.ptr s.size 3)) s4.get=some (I .i64 g.o):=ai b4 rfl
 have h1:=h.i1
 have h2:=h.i2
 have h3:=h.f0
 have h4:=h.fo
 have h5:=h.o2
 have c0:aI .u64 (I .i64 g.i)=some (I .u64 (g.i.toNat:Nat)):=by
  rw [aY]
  have:=wrap64 g.i.toNat (by omega)
  rw [show ((g.i.toNat:Nat):Int)=g.i by omega] at this
  rw [this,show ((g.i.toNat:Nat):Int)=g.i by omega]
 have c2:aI .u64 (I .i64 g.f)=some (I .u64 (g.f.toNat:Nat)):=by
  rw [aY]
  have:=wrap64 g.f.toNat (by omega)
  rw [show ((g.f.toNat:Nat):Int)=g.f by omega] at this
  rw [this,show ((g.f.toNat:Nat):Int)=g.f by omega]
 have w3:IntKind.i64.wrap (g.o-g.f)=g.o-g.f:=aE _ (by omega) (by omega)
 have c3:aI .u64 (I .i64 (g.o-g.f))=some (I .u64 ((g.o-g.f).toNat:Nat)):=by
  rw [aY]
  have:=wrap64 (g.o-g.f).toNat (by omega)
  rw [show (((g.o-g.f).toNat:Nat):Int)=g.o-g.f by omega] at this
  rw [this,show (((g.o-g.f).toNat:Nat):Int)=g.o-g.f by omega]
 have c1:aI .u64 (I .i64 0)=some (I .u64 0):=rfl
 have L5:=Fr.lit 1 L4.gr.wf (n:=4) (vs:=(bY g).map fun n:Nat=>S.int .u64 (n:Int)) rfl
 obtain ⟨s5,hs5⟩:∃ s5,s5=s4.push (.cells true ((bY g).map fun n:Nat=>S.int .u64 (n:Int))):=⟨_,rfl⟩
 rw [← hs5] at L5
 have Oh:aL s4 (aS 4 (aG [.int .u64 0,.int .u64 0,.int .u64 0,.int .u64 0] [(0,1,I .u64 (g.i.toNat:Nat)),(1,1,I .u64 0),(2,1,I .u64 (g.f.toNat:Nat)),(3,1,I .u64 ((g.o-g.f).toNat:Nat))]))=some (Z (.sl s4.size 0 4 (.known 4)),s5):=by rw [hs5];rfl
 have z4:=L4.gr.2.1
 have aaC:s4.size=s2.size+1:=by rw [hs4];simp
 have F4:FB s2 s4 (.sl s2.size 0 2 (.known 2)) [84,75]:=L4
 obtain ⟨b6,s6,lp,f6⟩:=FH (T0:=Z (.ptr s.size 0)) (d+1) (Fr.kY F4 L5.gr) L5.rd (fun c hc=>by
  cases hc
  refine ⟨(L5.new s4.size rfl).2,fun e => ?_⟩
  have e':s2.size=s4.size:=Option.some.inj e
  omega) h (by simp)
 rw [← oz] at f6
 have b6b:=(f6.gr.get b2 g2.wf)
 have q64:ab (Z (.ptr s.size 4)) s6.get=some (Z x):=ai b6b rfl
 have hx6:=hx1.gr uX (g2.trans f6.gr)
 have Yy:∀ c,own x=some c->c<s6.size:=fun c hc=>by have:=uX c hc;have:=(g2.trans f6.gr).2.1;omega
 obtain ⟨y7,s7,e7,f7⟩:=zk (d) f6.gr.wf hx6 Yy h.ok h.vs
 have b7b:=f7.gr.get b6b f6.gr.wf
 have Vq:ab (Z (.ptr s.size 1)) s7.get=some (I .i64 0):=ai b7b rfl
 have nL:=iA h
 have B6:(ja g).length+(bp g.l).length<=1500:=by unfold bo at nL;rwa [List.length_append] at nL
 obtain ⟨b8,s8,e8,f8,z8,k8⟩:=FB.app (Fr.kY f6 f7.gr) f7.rd (by omega)
 have Xt:FB s2 s8 b8 (bo g):=f8
 have e9:=D4 d Xt.rd (by omega)
 have hS:=kG (bo g) 1 (by decide)
 obtain ⟨y10,bM,qG,f10⟩:=Kh (d+1) Xt.gr.wf (bT 1 (bo g))
 have hfl:(four (bT 1 (bo g))).length=4:=rfl
 obtain ⟨GP,bO,Bf,f11,VK,k11⟩:=FB.app (Fr.kY Xt f10.gr) f10.rd (by omega)
 have TH:FB s2 bO GP (cJ g):=f11
 have ll:=TH.rd.lens
 have uK:=jV h
 have cF:¬ 4000<(((cJ g).length:Nat):Int):=by omega
 refine ⟨GP,bO,?_,Fr.from (g1.trans g2) TH⟩
 rw [Hj]
 unfold f121
 have Zj:=lp
 clear hS hfl uK nL B6 lp
 generalize R (d+2)=rr at *
 generalize s.size=ss at *
 generalize (((cJ g).length:Nat):Int)=SL at *
 generalize ((bT 1 (bo g):Nat):Int)=SB at *
 generalize ((g.i.toNat:Nat):Int)=n0 at *
 generalize ((g.f.toNat:Nat):Int)=n2 at *
 generalize (((g.o-g.f).toNat:Nat):Int)=n3 at *
 simp [nw,q6,e2,ya,q0,c0,q1,c1,q2,c2,q3,w3,c3,Oh,Zj,q64,e7,ah,Vq,e8,e9,qG,Bf,ll,cF,aQ,bK]
end
section
variable {s t u s0:St} {x y b lx bx:S} {l acc:List eU} {bs:Bs} {p:Nat} {r:Rr} {g:Sg}
theorem RB.upto (h:RB s x bs) {hi:Nat} (h2:hi<=bs.length):∃ y,aB 1 (Z x) none (some (I .i64 hi)) none=some (Z y)/\RB s y (bs.take hi)/\(own y=none\/own y=own x):=by
 obtain ⟨y,a,b,c⟩:=Rd.upto h h2
 refine ⟨y,a,?_,c⟩
 rw [Nat.mul_one,j6] at b
 unfold RB
 rwa [List.length_take,Nat.min_eq_left h2]
theorem RB.piece (h:RB s x bs) {lo hi:Nat} (h1:lo<=hi) (h2:hi<=bs.length):∃ y,aB 1 (Z x) (some (I .i64 lo)) (some (I .i64 hi)) none=some (Z y)/\RB s y ((bs.drop lo).take (hi-lo))/\(own y=none\/own y=own x):=by
 obtain ⟨y,a,b,c⟩:=Rd.piece h h1 h2
 refine ⟨y,a,?_,c⟩
 rw [Nat.mul_one,Nat.mul_one,xf,j6] at b
 unfold RB
 rwa [List.length_take,List.length_drop,Nat.min_eq_left (by omega)]
theorem RB.Ct (h:RB s x bs) {lo:Nat} (h1:lo<=bs.length):∃ y,aB 1 (Z x) (some (I .i64 lo)) none none=some (Z y)/\RB s y (bs.drop lo)/\(own y=none\/own y=own x):=by
 obtain ⟨y,a,b,c⟩:=Rd.Ct h h1
 refine ⟨y,a,?_,c⟩
 rw [Nat.mul_one,xf] at b
 unfold RB
 rwa [List.length_drop]
def eR (g:Sg) (k:Nat):List S:=((bY g).take k).map (fun n:Nat=>S.int .u64 (n:Int))++List.replicate (4-k) (.int .u64 0)
theorem FC (d:Nat) {T2:T} {A:Nat} (wf:u.wf) (hb:RB u bx (cJ g)) (hA:u.get A=some (.cells true (eR g 0))) (hbA:∀ c,own bx=some c->c≠A) (h:j4 g) :
 ∃ t,loops (tA (R (d+1)) 8192) 8192 [Z bx,T2,I .i64 ((bo g).length:Nat),Z (.ptr A 0),I .i64 2,I .i64 0] u=some (.exit 0 [Z bx,T2,I .i64 ((bo g).length:Nat),Z (.ptr A 0),I .i64 ((ja g).length:Nat)],t) ∧
   t.get A=some (.cells true (eR g 4))/\t.size=u.size/\t.wf/\∀ c,c≠A->t.get c=u.get c:=by
 have nL:=iA h
 have uK:=jV h
 obtain ⟨j,τ,lp,rfl,h1,h2,h3,h4⟩:=aV (f:=tA (R (d+1)) 8192)
  (fun q v w=>∃ (k:Nat),q+k=4/\v=[Z bx,T2,I .i64 ((bo g).length:Nat),Z (.ptr A 0),I .i64 (([84,75]++dA ((bY g).take k)).length:Nat),I .i64 (k:Nat)]/\w.get A=some (.cells true (eR g k))/\w.size=u.size/\w.wf/\∀ c,c≠A->w.get c=u.get c)
  (fun j w=>j = .exit 0 [Z bx,T2,I .i64 ((bo g).length:Nat),Z (.ptr A 0),I .i64 ((ja g).length:Nat)]/\w.get A=some (.cells true (eR g 4))/\w.size=u.size/\w.wf/\∀ c,c≠A->w.get c=u.get c) (by
  rintro q v w ⟨k,hq,rfl,hA,hz,wf,hk⟩
  by_cases S3:k<4
  · left
    have hlen:(bY g).length=4:=rfl
    obtain ⟨n,hne⟩:∃ n,n=(bY g)[k]'(by omega):=⟨_,rfl⟩
    have hnk:(bY g)[k]? = some n:=by rw [List.getElem?_eq_getElem (by omega),hne]
    have Yn:=Al h n (List.mem_of_getElem? hnk)
    have hbw:RB w bx (cJ g):=hb.keep fun c hc=>hk c (hbA c hc)
    obtain ⟨y,pc,hy,oy⟩:=RB.upto hbw (hi:=(bo g).length) (by omega)
    have UL:(cJ g).take (bo g).length=bo g:=by unfold cJ;rw [List.take_left]
    rw [UL] at hy
    have lh:(bY g).take (k+1)=(bY g).take k++[n]:=by rw [List.take_add_one,hnk];rfl
    have xS:bo g=([84,75]++dA ((bY g).take k))++(aP n++(dA ((bY g).drop (k+1))++bp g.l)):=by
     unfold bo
     rw [oz]
     have h5:bY g=(bY g).take k++(n::(bY g).drop (k+1)):=by
      have:=List.take_append_drop k (bY g)
      rw [List.drop_eq_getElem_cons (by omega:k<(bY g).length),← hne] at this
      exact this.symm
     have h6:dA (bY g)=dA ((bY g).take k)++(aP n++dA ((bY g).drop (k+1))):=by
      conv=>lhs;rw [h5]
      rw [mG];rfl
     rw [h6]
     simp [List.append_assoc]
    obtain ⟨Sy,Rg⟩:∃ P,P=[84,75]++dA ((bY g).take k):=⟨_,rfl⟩
    rw [← Rg] at xS
    have hv:=mP (at_:=Sy.length) xS rfl (by omega:n<2 ^ 64)
    have hpl:Sy.length<=(bo g).length:=by rw [xS,List.length_append];omega
    have e1:=o8 d hy (by omega) (at_:=Sy.length) (by omega)
    rw [hv] at e1
    simp only [uF] at e1
    have c0:((k:Nat):Int)<4:=by omega
    have c1:¬ 1099511627776<((n:Nat):Int):=by omega
    have wi:IntKind.i64.wrap ((k:Int)+1)=((k+1:Nat):Int):=by rw [aE _ (by omega) (by omega)];omega
    have ia:bz 4 1 (Z (.ptr A 0)) (I .i64 (k:Nat))=some (Z (.ptr A k)):=by
     have h2:nP (I .i64 (k:Nat)) 4=some k:=by
      have:(0:Int)<=(k:Nat)/\((k:Nat):Int)<((4:Nat):Int):=by omega
      simp [nP];omega
     simp [bz,h2]
    have gP:(eR g k).set k (.int .u64 (n:Int))=eR g (k+1):=by
     rcases (by omega:k=0\/k=1\/k=2\/k=3) with rfl | rfl | rfl | rfl <;>
     · have:=Option.some.inj hnk
       rw [← this]
       rfl
    have jy:(eR g k).length=4:=by
     unfold eR
     rw [List.length_append,List.length_map,List.length_take,List.length_replicate,hlen]
     omega
    obtain ⟨w2,IK⟩:∃ w2,w2=w.set A (.cells true (eR g (k+1))):=⟨_,rfl⟩
    have st:aw 1 (Z (.ptr A k)) (I .u64 (n:Nat)) w=some (tt,w2):=by
     rw [IK,← gP]
     exact aW hA (by omega)
    have Uy:([84,75]++dA ((bY g).take (k+1))).length=Sy.length+(aP n).length:=by
     rw [lh,mG,← List.append_assoc,← Rg,List.length_append]
     simp [dA]
    refine ⟨[Z bx,T2,I .i64 ((bo g).length:Nat),Z (.ptr A 0),I .i64 (([84,75]++dA ((bY g).take (k+1))).length:Nat),I .i64 ((k+1:Nat):Int)],w2,q-1,?_,by omega,k+1,by omega,rfl,by rw [IK];exact St.ar _ _ _,by rw [IK];simpa using hz,by rw [IK];exact St.wf_set wf (wf.lt hA) _,fun c hc=>by rw [IK,St.aj _ _ hc];exact hk c hc⟩
    unfold tA
    rw [Uy,← Rg]
    clear gP jy xS hv hne
    generalize R (d+1)=rr at *
    generalize ((Sy.length+(aP n).length:Nat):Int)=P2 at *
    generalize ((Sy.length:Nat):Int)=P1 at *
    generalize (((bo g).length:Nat):Int)=BL at *
    generalize ((k+1:Nat):Int)=K1 at *
    generalize ((k:Nat):Int)=K0 at *
    generalize ((n:Nat):Int)=NN at *
    simp [c0,pc,e1,ah,c1,ia,st,wi]
  · right
    have hkk:k=4:=by omega
    subst hkk
    have hl4:[84,75]++dA ((bY g).take 4)=ja g:=by rw [oz];rfl
    rw [hl4]
    refine ⟨_,w,?_,(fun v h=>by cases h),rfl,hA,hz,wf,hk⟩
    unfold tA
    have:((4:Nat):Int)=4:=rfl
    rw [this]
    simp)
  8192 4 _ u ⟨0,by omega,rfl,hA,rfl,wf,fun _ _=>rfl⟩ (by decide)
 exact ⟨τ,lp,h1,h2,h3,h4⟩
end
theorem Cw (a b:Nat) (ha:a<2 ^ 32) (hb:b<2 ^ 32):af .or (I .u32 a) (I .u32 b)=some (I .u32 ((a ||| b:Nat))):=by
 have h:a ||| b<2 ^ 32:=Nat.or_lt_two_pow ha hb
 show some (I .u32 (IntKind.u32.wrap ((BitVec.ofInt 32 a ||| BitVec.ofInt 32 b).toNat:Nat)))=_
 rw [BitVec.toNat_or,jw 32 a ha,jw 32 b hb,wrap32,Nat.mod_eq_of_lt (by omega)]
theorem yz (a b:Nat) (h:a*2 ^ b<2 ^ 32) (hb:b<32):af .shl (I .u32 a) (I .u64 b)=some (I .u32 ((a*2 ^ b:Nat))):=by
 have e:min b 32=b:=by omega
 have h0:¬ ((b:Int)<0):=by omega
 have e2:(a:Int)*2 ^ b=((a*2 ^ b:Nat):Int):=by push_cast;rfl
 simp only [af,nq,if_neg h0,Int.toNat_natCast,IntKind.bits,e,e2,wrap32]
 rw [Nat.mod_eq_of_lt (by omega)]
section
variable {s t u s0:St} {x y b lx bx:S} {l acc:List eU} {bs:Bs} {p:Nat} {r:Rr} {g:Sg}
theorem Sa {x y:S} {n:Nat} (h:own y=none\/own y=own x) (hx:∀ c,own x=some c->c<n):∀ c,own y=some c->c<n:=fun c hc=>by
 rcases h with h | h
 · rw [h] at hc;cases hc
 · rw [h] at hc;exact hx c hc
theorem Lc (wf:s.wf):∃ s1,aL s (bb [.int .i64 0,.int .i64 0,.int .i64 0,.int .i64 0,.ay,.ay])=some (Z (.ptr s.size 0),s1)/\Gr s s1/\s1.get s.size=some (.cells true [.int .i64 0,.int .i64 0,.int .i64 0,.int .i64 0,.ay,.ay])/\s1.size=s.size+1 :=
 ⟨_,rfl,Gr.push wf _,St.aq _ _,by simp⟩
set_option maxHeartbeats 8000000 in
theorem AJ (d:Nat) (wf:s.wf) (hb:RB s bx (cJ g)) (yN:∀ c,own bx=some c->c<s.size) (h:j4 g):∃ y t,R (d+5) 81 [Z bx] s=some (.eF [.agg (cG g y),.s (.int .i64 0)],t)/\mQ s t y g.l:=by
 have nL:=iA h
 have uK:=jV h
 have Pa:(ja g).length<=(bo g).length:=by unfold bo;rw [List.length_append];omega
 have hh2:2<=(ja g).length:=by rw [oz,List.length_append];simp
 obtain ⟨s1,cZ,g1,b1,z1⟩:=Lc wf
 have rb:∀ {v:St},Gr s v->RB v bx (cJ g):=fun gg=>Rd.gr hb yN gg
 have ll:=hb.lens
 have w1:IntKind.i64.wrap ((((cJ g).length:Nat):Int)-4)=(((bo g).length:Nat):Int):=by rw [aE _ (by omega) (by omega)];omega
 have c1:¬ (((bo g).length:Nat):Int)<2:=by omega
 have hd0:(cJ g)[0]? = some 84:=rfl
 have B7:(cJ g)[1]? = some 75:=rfl
 obtain ⟨p0,i0,l0⟩:=RB.En (rb g1) (n:=0) (j:=0) rfl hd0
 obtain ⟨p1,i1,l1⟩:=RB.En (rb g1) (n:=1) (j:=1) rfl B7
 have Pv:ab p0 s1.get=some (I .u8 84):=l0
 have l1':ab p1 s1.get=some (I .u8 75):=l1
 obtain ⟨s5,hs5⟩:∃ s5,s5=s1.push (.cells true [.int .u64 0,.int .u64 0,.int .u64 0,.int .u64 0]):=⟨_,rfl⟩
 have Oh:aL s1 (bb [.int .u64 0,.int .u64 0,.int .u64 0,.int .u64 0])=some (Z (.ptr s1.size 0),s5):=by rw [hs5];rfl
 have g5:Gr s1 s5:=by rw [hs5];exact Gr.push g1.wf _
 have b5:s5.get s1.size=some (.cells true (eR g 0)):=by rw [hs5];exact St.aq _ _
 have z5:s5.size=s1.size+1:=by rw [hs5];simp
 obtain ⟨s6,lp,b6,z6,VI,k6⟩:=FC (T2:=Z (.ptr s.size 0)) (d+3) g5.wf (rb (g1.trans g5)) b5 (fun c hc=>by have:=yN c hc;omega) h
 have g6:Gr s s6:=⟨VI,by omega,fun c hc=>by rw [k6 c (by omega),(g1.trans g5).2.2 c hc]⟩
 have t6:s6.get s.size=some (.cells true [.int .i64 0,.int .i64 0,.int .i64 0,.int .i64 0,.ay,.ay]):=by rw [k6 _ (by omega)];exact g5.get b1 g1.wf
 have h1:=h.i1
 have h2:=h.i2
 have h3:=h.f0
 have h4:=h.fo
 have h5:=h.o2
 have a0:bz 4 1 (Z (.ptr s1.size 0)) (I .i64 0)=some (Z (.ptr s1.size 0)):=rfl
 have a1:bz 4 1 (Z (.ptr s1.size 0)) (I .i64 1)=some (Z (.ptr s1.size 1)):=rfl
 have a2:bz 4 1 (Z (.ptr s1.size 0)) (I .i64 2)=some (Z (.ptr s1.size 2)):=rfl
 have a3:bz 4 1 (Z (.ptr s1.size 0)) (I .i64 3)=some (Z (.ptr s1.size 3)):=rfl
 have n0:ab (Z (.ptr s1.size 0)) s6.get=some (I .u64 g.i):=by
  have:ab (Z (.ptr s1.size 0)) s6.get=some (I .u64 (g.i.toNat:Nat)):=ai b6 rfl
  rwa [show ((g.i.toNat:Nat):Int)=g.i by omega] at this
 have n1:ab (Z (.ptr s1.size 1)) s6.get=some (I .u64 0):=ai b6 rfl
 have n2:ab (Z (.ptr s1.size 2)) s6.get=some (I .u64 g.f):=by
  have:ab (Z (.ptr s1.size 2)) s6.get=some (I .u64 (g.f.toNat:Nat)):=ai b6 rfl
  rwa [show ((g.f.toNat:Nat):Int)=g.f by omega] at this
 have n3:ab (Z (.ptr s1.size 3)) s6.get=some (I .u64 (g.o-g.f)):=by
  have:ab (Z (.ptr s1.size 3)) s6.get=some (I .u64 ((g.o-g.f).toNat:Nat)):=ai b6 rfl
  rwa [show (((g.o-g.f).toNat:Nat):Int)=g.o-g.f by omega] at this
 have v0:IntKind.i64.wrap g.i=g.i:=aE _ (by omega) (by omega)
 have v2:IntKind.i64.wrap g.f=g.f:=aE _ (by omega) (by omega)
 have v3:IntKind.u64.wrap (g.f+(g.o-g.f))=g.o:=by
  rw [show g.f+(g.o-g.f)=((g.o.toNat:Nat):Int) by omega,wrap64 _ (by omega)];omega
 have v4:IntKind.i64.wrap g.o=g.o:=aE _ (by omega) (by omega)
 have v1:IntKind.i64.wrap 0=0:=rfl
 have ag:aU (aG [.int .i64 0,.int .i64 0,.int .i64 0,.int .i64 0,.ay,.ay] [(0,1,I .i64 g.i),(1,1,I .i64 0),(2,1,I .i64 g.f),(3,1,I .i64 g.o)])=some (AG g .ay):=rfl
 obtain ⟨s7,DM,g7,b7,z7⟩:=Lc VI
 obtain ⟨s8,vO⟩:∃ s8,s8=s7.set s6.size (.cells true (cG g .ay)):=⟨_,rfl⟩
 have yV:aw 6 (Z (.ptr s6.size 0)) (AG g .ay) s7=some (tt,s8):=by rw [vO];exact mN b7 rfl
 have b8:s8.get s6.size=some (.cells true (cG g .ay)):=by rw [vO];exact St.ar _ _ _
 have g8:Gr s6 s8:=by
  rw [vO]
  exact ⟨St.wf_set g7.wf (g7.wf.lt b7) _,by simp;omega,fun c hc=>by rw [St.aj _ _ (by omega)];exact g7.2.2 c hc⟩
 have z8:s8.size=s7.size:=by rw [vO];simp
 have q81:ab (Z (.ptr s6.size 1)) s8.get=some (I .i64 0):=ai b8 rfl
 obtain ⟨yp,pc,hy,oy⟩:=RB.piece (rb (g6.trans g8)) Pa (by omega)
 have hblk:((cJ g).drop (ja g).length).take ((bo g).length-(ja g).length)=bp g.l:=by
  have e1:cJ g=ja g++(bp g.l++four (bT 1 (bo g))):=by unfold cJ bo;rw [List.append_assoc]
  have e2:(bo g).length-(ja g).length=(bp g.l).length:=by unfold bo;rw [List.length_append];omega
  rw [e1,List.drop_left,e2,List.take_left]
 rw [hblk] at hy
 have Rm:=sY g.l
 have hf:=h.Dj
 have aaD:=(g6.trans g8).2.1
 obtain ⟨y9,s9,e9,g9,F9⟩:=GR d (g8).wf hy (Sa oy fun c hc=>by have:=yN c hc;omega) (by omega)
 rw [B0 h.ok h.vs] at e9 F9
 have f9:=F9 _ rfl
 simp only [CL] at e9
 have b9:=g9.get b8 g8.wf
 obtain ⟨bM,lR⟩:∃ bM,bM=s9.set s6.size (.cells true (cG g y9)):=⟨_,rfl⟩
 have FI:aw 1 (Z (.ptr s6.size 4)) (Z y9) s9=some (tt,bM):=by rw [lR];exact aW b9 (by simp [cG])
 have SF:bM.get s6.size=some (.cells true (cG g y9)):=by rw [lR];exact St.ar _ _ _
 have FU:bM.wf:=by rw [lR];exact St.wf_set g9.wf (g9.wf.lt b9) _
 have Z7:bM.size=s9.size:=by rw [lR];simp
 have KR:∀ c,c≠s6.size->bM.get c=s9.get c:=fun c hc=>by rw [lR];exact St.aj _ _ hc
 have WD:∀ c,own y9=some c->s8.size<=c/\c<s9.size:=f9.new
 have oR:pn bM y9 g.l:=f9.rd.keep fun c hc=>KR c (by have:=(WD c hc).1;omega)
 have WN:=nB (m:=bM.get) SF
 obtain ⟨y11,bO,Bf,f11⟩:=Kj (d+1) FU h oR (fun c hc=>by have:=(WD c hc).2;omega)
 have g10:Gr s bM:=⟨FU,by have:=g9.2.1;omega,fun c hc=>by rw [KR c (by omega),g9.2.2 c (by omega),(g6.trans g8).2.2 c hc]⟩
 have KE:=xp (d+3) f11.rd (rb (g10.trans f11.gr))
 rw [decide_eq_true rfl] at KE
 have GP:=f11.gr.get SF FU
 have l11:=nB (m:=bO.get) GP
 have t11:bO.get s.size=some (.cells true [.int .i64 0,.int .i64 0,.int .i64 0,.int .i64 0,.ay,.ay]):=by
  rw [f11.gr.2.2 _ (by have:=g9.2.1;omega),KR _ (by omega),g9.2.2 _ (by omega),g8.2.2 _ (by omega)];exact t6
 obtain ⟨bW,tN⟩:∃ bW,bW=bO.set s.size (.cells true (cG g y9)):=⟨_,rfl⟩
 have yC:aw 6 (Z (.ptr s.size 0)) (AG g y9) bO=some (tt,bW):=by rw [tN];exact mN t11 rfl
 have PU:bW.get s.size=some (.cells true (cG g y9)):=by rw [tN];exact St.ar _ _ _
 have Zc:=nB (m:=bW.get) PU
 have g11:=g10.trans f11.gr
 refine ⟨y9,bW,?_,⟨?_,f9.ow.keep fun c hc => ?_,fun c hc => ?_⟩⟩
 · rw [M4]
   unfold f81
   simp only [Nat.add_assoc,Nat.reduceAdd] at lp e9 Bf KE
   clear hblk h1 h2 h3 h4 h5 nL uK Pa hh2 Rm hd0 B7
   generalize R (d+4)=rr at *
   generalize (((cJ g).length:Nat):Int)=SL at *
   generalize (((bo g).length:Nat):Int)=BL at *
   generalize (((ja g).length:Nat):Int)=HL at *
   generalize s1.size=Xe at *
   generalize s6.size=z6' at *
   generalize s.size=z0' at *
   simp [cZ,ll,w1,c1,i0,Pv,i1,l1',Oh,lp,a0,n0,v0,a1,n1,v1,a2,n2,v2,a3,n3,v3,v4,ag,DM,yV,q81,pc,e9,ah,FI,WN,Bf,KE,l11,yC,Zc,rC,rT,aQ,bK,kN]
 · rw [tN]
   exact ⟨St.wf_set g11.wf (g11.wf.lt t11) _,by simpa using g11.2.1,fun c hc=>by rw [St.aj _ _ (by omega)];exact g11.2.2 c hc⟩
 · have:=WD c hc
   rw [tN,St.aj _ _ (by omega),f11.gr.2.2 c (by omega),KR c (by omega)]
 · have:=WD c hc
   have:=f11.gr.2.1
   have KE:bW.size=bO.size:=by rw [tN];simp
   omega
end
def il (g:Sg):dB:=⟨g.i,0,g.f,g.o,(bT 1 (bo g):Nat)⟩
theorem EJ {n:Nat} (h:n<2 ^ 32):((n%256 ||| n / 256%256*2 ^ 8) ||| n / 65536%256*2 ^ 16) ||| n / 16777216%256*2 ^ 24=n:=by
 rw [tY _ _ 8 (by omega),tY _ _ 16 (by omega),tY _ _ 24 (by omega)]
 omega
section
variable {s t u s0:St} {x y b lx bx:S} {l acc:List eU} {bs:Bs} {p:Nat} {r:Rr} {g:Sg}
theorem DI {i:Nat} {w:Bool} {a:dB} {m:Mem} (h:m i=some (.cells w (cI a))):aH 5 (Z (.ptr i 0)) m=some (AI a):=by
 simp [aH,h,cI]
theorem CR {i:Nat} {vs:List S} {a:dB} (h:s.get i=some (.cells true vs)) (hv:vs.length=5):aw 5 (Z (.ptr i 0)) (AI a) s=some (tt,s.set i (.cells true (cI a))):=by
 have hb:(V.agg (cI a)).cells.length=5/\0+5<=vs.length:=⟨rfl,by omega⟩
 simp only [aw,h,if_pos hb]
 rw [show (V.agg (cI a)).cells=cI a from rfl,eD (by rw [hv];rfl)]
theorem PX (wf:s.wf):∃ s1,aL s (bb [.int .i64 0,.int .i64 0,.int .i64 0,.int .i64 0,.int .u32 0])=some (Z (.ptr s.size 0),s1)/\Gr s s1/\s1.get s.size=some (.cells true [.int .i64 0,.int .i64 0,.int .i64 0,.int .i64 0,.int .u32 0])/\s1.size=s.size+1 :=
 ⟨_,rfl,Gr.push wf _,St.aq _ _,by simp⟩
set_option maxHeartbeats 4000000 in
theorem wO (d:Nat) (wf:s.wf) (hb:RB s bx (cJ g)) (yN:∀ c,own bx=some c->c<s.size) (h:j4 g):∃ t,R (d+6) 77 [Z bx] s=some (.eF [.agg (cI (il g)),.s (.int .i64 0)],t)/\Gr s t:=by
 have nL:=iA h
 have uK:=jV h
 obtain ⟨s1,cZ,g1,b1,z1⟩:=PX wf
 have rb:∀ {v:St},Gr s v->RB v bx (cJ g):=fun gg=>Rd.gr hb yN gg
 obtain ⟨y2,s2,e2,f2⟩:=AJ d g1.wf (rb g1) (fun c hc=>by have:=yN c hc;omega) h
 obtain ⟨s3,Cs,g3,b3,z3⟩:=Lc f2.gr.wf
 obtain ⟨s4,hs4⟩:∃ s4,s4=s3.set s2.size (.cells true (cG g y2)):=⟨_,rfl⟩
 have KW:aw 6 (Z (.ptr s2.size 0)) (AG g y2) s3=some (tt,s4):=by rw [hs4];exact mN b3 rfl
 have b4:s4.get s2.size=some (.cells true (cG g y2)):=by rw [hs4];exact St.ar _ _ _
 have z12:=f2.gr.2.1
 have k4:∀ c,c<s2.size->s4.get c=s2.get c:=fun c hc=>by rw [hs4,St.aj _ _ (by omega)];exact g3.2.2 c hc
 have OU:s4.wf:=by rw [hs4];exact St.wf_set g3.wf (g3.wf.lt b3) _
 have z4:s4.size=s3.size:=by rw [hs4];simp
 have g4:Gr s s4:=⟨OU,by omega,fun c hc=>by rw [k4 c (by omega),f2.gr.2.2 c (by omega),g1.2.2 c hc]⟩
 have t4:s4.get s.size=some (.cells true [.int .i64 0,.int .i64 0,.int .i64 0,.int .i64 0,.int .u32 0]):=by rw [k4 _ (by omega),f2.gr.2.2 _ (by omega)];exact b1
 have ll:=hb.lens
 have w1:IntKind.i64.wrap ((((cJ g).length:Nat):Int)-4)=(((bo g).length:Nat):Int):=by rw [aE _ (by omega) (by omega)];omega
 obtain ⟨yp,pc,hy,oy⟩:=RB.Ct (rb g4) (lo:=(bo g).length) (by omega)
 have m6:(cJ g).drop (bo g).length=four (bT 1 (bo g)):=by unfold cJ;rw [List.drop_left]
 rw [m6] at hy
 obtain ⟨S,hS⟩:∃ S,S=bT 1 (bo g):=⟨_,rfl⟩
 have hSl:S<4294967291:=by rw [hS];exact kG (bo g) 1 (by decide)
 rw [← hS] at hy
 obtain ⟨p0,i0,l0⟩:=RB.En hy (n:=0) (j:=0) (c:=UInt8.ofNat S) rfl rfl
 obtain ⟨p1,i1,l1⟩:=RB.En hy (n:=1) (j:=1) (c:=UInt8.ofNat (S / 256)) rfl rfl
 obtain ⟨p2,i2,l2⟩:=RB.En hy (n:=2) (j:=2) (c:=UInt8.ofNat (S / 65536)) rfl rfl
 obtain ⟨p3,i3,l3⟩:=RB.En hy (n:=3) (j:=3) (c:=UInt8.ofNat (S / 16777216)) rfl rfl
 rw [ed] at l0 l1 l2 l3
 have q0:ab (Z (.ptr s2.size 0)) s4.get=some (I .i64 g.i):=ai b4 rfl
 have q1:ab (Z (.ptr s2.size 1)) s4.get=some (I .i64 0):=ai b4 rfl
 have q2:ab (Z (.ptr s2.size 2)) s4.get=some (I .i64 g.f):=ai b4 rfl
 have q3:ab (Z (.ptr s2.size 3)) s4.get=some (I .i64 g.o):=ai b4 rfl
 have key:=EJ (n:=S) (by omega)
 have k0:=Nat.mod_lt S (show 0<256 by decide)
 have k1:=Nat.mod_lt (S / 256) (show 0<256 by decide)
 have k2:=Nat.mod_lt (S / 65536) (show 0<256 by decide)
 have k3:=Nat.mod_lt (S / 16777216) (show 0<256 by decide)
 generalize S%256=a0 at *
 generalize S / 256%256=a1 at *
 generalize S / 65536%256=a2 at *
 generalize S / 16777216%256=a3 at *
 have c0:aI .u32 (I .u8 (a0:Nat))=some (I .u32 (a0:Nat)):=by rw [aY,wrap32,Nat.mod_eq_of_lt (by omega)]
 have c1:aI .u32 (I .u8 (a1:Nat))=some (I .u32 (a1:Nat)):=by rw [aY,wrap32,Nat.mod_eq_of_lt (by omega)]
 have c2:aI .u32 (I .u8 (a2:Nat))=some (I .u32 (a2:Nat)):=by rw [aY,wrap32,Nat.mod_eq_of_lt (by omega)]
 have c3:aI .u32 (I .u8 (a3:Nat))=some (I .u32 (a3:Nat)):=by rw [aY,wrap32,Nat.mod_eq_of_lt (by omega)]
 obtain ⟨e1,Wp⟩:∃ e,e=a1*2 ^ 8:=⟨_,rfl⟩
 obtain ⟨KJ,Wq⟩:∃ e,e=a2*2 ^ 16:=⟨_,rfl⟩
 obtain ⟨e3,XY⟩:∃ e,e=a3*2 ^ 24:=⟨_,rfl⟩
 have h1:af .shl (I .u32 (a1:Nat)) (I .u64 8)=some (I .u32 (e1:Nat)):=by rw [Wp];exact yz _ 8 (by omega) (by decide)
 have h2:af .shl (I .u32 (a2:Nat)) (I .u64 16)=some (I .u32 (KJ:Nat)):=by rw [Wq];exact yz _ 16 (by omega) (by decide)
 have h3:af .shl (I .u32 (a3:Nat)) (I .u64 24)=some (I .u32 (e3:Nat)):=by rw [XY];exact yz _ 24 (by omega) (by decide)
 rw [← Wp,← Wq,← XY] at key
 have r1:=Cw a0 e1 (by omega) (by omega)
 have m1:a0 ||| e1<2 ^ 32:=Nat.or_lt_two_pow (by omega) (by omega)
 obtain ⟨o1,S8⟩:∃ o,o=a0 ||| e1:=⟨_,rfl⟩
 rw [← S8] at r1 m1 key
 have r2:=Cw o1 KJ m1 (by omega)
 have m2:o1 ||| KJ<2 ^ 32:=Nat.or_lt_two_pow m1 (by omega)
 obtain ⟨o2,S9⟩:∃ o,o=o1 ||| KJ:=⟨_,rfl⟩
 rw [← S9] at r2 m2 key
 have r3:=Cw o2 e3 m2 (by omega)
 rw [key] at r3
 have ag:aU (aG [.int .i64 0,.int .i64 0,.int .i64 0,.int .i64 0,.int .u32 0] [(0,1,I .i64 g.i),(1,1,I .i64 0),(2,1,I .i64 g.f),(3,1,I .i64 g.o),(4,1,I .u32 (S:Nat))])=some (AI (il g)):=by
  rw [hS];rfl
 obtain ⟨s5,hs5⟩:∃ s5,s5=s4.set s.size (.cells true (cI (il g))):=⟨_,rfl⟩
 have KX:aw 5 (Z (.ptr s.size 0)) (AI (il g)) s4=some (tt,s5):=by rw [hs5];exact CR t4 rfl
 have l5:=DI (m:=s5.get) (by rw [hs5];exact St.ar _ _ _:s5.get s.size=some (.cells true (cI (il g))))
 refine ⟨s5,?_,?_⟩
 · rw [MY]
   unfold f77
   clear hSl m1 m2 m6 nL uK key S8 S9 Wp Wq XY k0 k1 k2 k3
   generalize R (d+5)=rr at *
   generalize ((o2:Nat):Int)=o2' at *
   generalize ((o1:Nat):Int)=o1' at *
   generalize ((e1:Nat):Int)=V9 at *
   generalize ((KJ:Nat):Int)=aag at *
   generalize ((e3:Nat):Int)=e3' at *
   generalize ((a0:Nat):Int)=a0' at *
   generalize ((a1:Nat):Int)=a1' at *
   generalize ((a2:Nat):Int)=a2' at *
   generalize ((a3:Nat):Int)=a3' at *
   generalize ((S:Nat):Int)=SS at *
   generalize (((cJ g).length:Nat):Int)=SL at *
   generalize (((bo g).length:Nat):Int)=BL at *
   generalize s2.size=z2' at *
   generalize s.size=z0' at *
   simp [cZ,e2,ah,Cs,KW,ll,w1,pc,q0,q1,q2,q3,i0,l0,c0,i1,l1,c1,h1,r1,i2,l2,c2,h2,r2,i3,l3,c3,h3,r3,ag,KX,l5,rC,rT,aQ,bK]
 · rw [hs5]
   exact ⟨St.wf_set OU (OU.lt t4) _,by simpa using g4.2.1,fun c hc=>by rw [St.aj _ _ (by omega)];exact g4.2.2 c hc⟩
end
def ic (g:Sg):bA:=⟨1,0,g.i,0,g.f,g.o,(bT 1 (bo g):Nat),[]⟩
theorem K6 (g:Sg):pb (ic g):=⟨by simp [ic],by have:=kG (bo g) 1 (by decide);simp [ic];omega⟩
structure K7 (ρ ρ':Nat->Nat) (s t:St):Prop where
 sz:s.size<=t.size
 ro:∀ c,c<s.size->ρ' c=ρ c
 kp:∀ c,c<s.size->7<=ρ c->t.get c=s.get c
theorem K7.trans {ρ ρ' ρ'':Nat->Nat} {s t u:St} (h:K7 ρ ρ' s t) (k:K7 ρ' ρ'' t u):K7 ρ ρ'' s u :=
 ⟨Nat.le_trans h.sz k.sz,fun c hc=>by rw [k.ro c (Nat.lt_of_lt_of_le hc h.sz),h.ro c hc],fun c hc hr=>by rw [k.kp c (Nat.lt_of_lt_of_le hc h.sz) (by rw [h.ro c hc];exact hr),h.kp c hc hr]⟩
theorem Kp.k7 {ρ ρ':Nat->Nat} {s t:St} (h:Kp ρ ρ' s t):K7 ρ ρ' s t:=⟨h.sz,h.ro,fun c hc hr=>h.kp c hc (by omega)⟩
theorem Wm {ρ:Nat->Nat} {s t:St} (h:Gr s t):K7 ρ ρ s t:=⟨h.2.1,fun _ _=>rfl,fun c hc _=>h.2.2 c hc⟩
def tk (ρ:Nat->Nat) (n:Nat):Nat->Nat:=fun c=>if c<n then ρ c else 9
theorem cy {ρ:Nat->Nat} {n c:Nat} (h:c<n):tk ρ n c=ρ c:=if_pos h
theorem mu {ρ:Nat->Nat} {n c:Nat} (h:n<=c):tk ρ n c=9:=if_neg (by omega)
theorem O3 {ρ:Nat->Nat} {s t:St} (h:Gr s t):K7 ρ (tk ρ s.size) s t:=⟨h.2.1,fun _ hc=>cy hc,fun c hc _=>h.2.2 c hc⟩
section
variable {ρ ρ':Nat->Nat} {s t:St} {D:mS} {room:Int} {fs fs':List Fl} {l:List bA} {q:FoS} {sure:Nat} {i m:Nat} {e:bA} {n:Bs} {y bx:S} {xs:List S} {g:Sg}
theorem aX.k9 (h:aX ρ s D room fs l q sure) (g:Gr s t):aX (tk ρ s.size) t D room fs l q sure:=(h.ZT fun c hc=>cy hc).gr g
inductive Gv (ρ:Nat->Nat) (D:mS) (room:Int) (fs:List Fl) (l:List bA) (q:FoS) (sure:Nat) (n:Bs) (g:Sg) (s t:St):Int->Prop
 | no {ρ' fs' c}:aX ρ' t D room fs' l q sure->cu fs'=cu fs->K7 ρ ρ' s t->c≠0->(c=bh q (ic g)\/c=8/\bh q (ic g)=0/\(room<(jC (cu fs):Int)+(cJ g).length\/room<(jC (cu fs):Int)+(cJ g).length+(aZ (bj (ic g))).length))->Gv ρ D room fs l q sure n g s t c
 | ok {ρ' D' fs'}:aX ρ' t D' room fs' (l++[ic g]) (cN q (ic g)) sure->iJ fs' (l++[ic g]) sure->cu fs'=ei (aZ (bj (ic g))) (cu fs++[⟨n,U (cJ g),(cJ g).length⟩])->K7 ρ ρ' s t->(D'.p=D.p/\D'.i=D.i/\D'.m=D.m) →
  bh q (ic g)=0->(jC (cu fs):Int)+(cJ g).length+(aZ (bj (ic g))).length<=room->Gv ρ D room fs l q sure n g s t 0
theorem J6 {n:Bs} {vs:List FV} {v:FV} (h:ik n vs=false) (hv:v.nm=n):qn n (vs++[v])=vs:=by
 unfold qn
 rw [List.filter_append,List.filter_eq_self.2 fun w hw=>by simpa using fG.1 h w hw]
 simp [hv]
theorem FO {n:Bs} {vs:List FV} {x:List S} {k:Nat} (h:ik n vs=false):fN n (vs++[⟨n,x,k⟩])=vs++[⟨n,x,x.length⟩]:=by
 unfold fN jD
 rw [List.map_append]
 have:=sG (g:=fun v=>⟨v.nm,v.l,v.l.length⟩) (fG.1 h)
 unfold jD at this
 rw [this]
 simp
theorem Ks (a b:List FV):jC (a++b)=jC a+jC b:=by simp [jC]
theorem dm (fs:List Fl):(cu fs).length=fs.length:=by simp [cu]
set_option maxHeartbeats 8000000 in
theorem install_run (d:Nat) (h:aX ρ s D room fs l q sure) (oB:iJ fs l sure) (hn:nN fs) (hfl:fs.length<=98) (hg:j4 g) {k:Nat} (hk:g.i=(k:Int)) (jb:1<=k) (hk2:k<=64) (hb:RB s bx (cJ g)) (yN:∀ c,own bx=some c->c<s.size/\7<=ρ c)
 (hno:bh q (ic g)=0->ik (bw k) (cu fs)=false) (hsz:(aF l).length<=40000) (hl:l.length<2000) :
 ∃ t c,R (d+14) 22 [Z (.ptr D.p 0),Z bx,I .i64 0] s=some (I .i64 c,t)/\Gv ρ D room fs l q sure (bw k) g s t c:=by
 have nL:=iA hg
 have uK:=jV hg
 have Dr:(U (cJ g)).length=(cJ g).length:=by simp
 have np:fT .p (Z (.ptr D.p 0)) (Z .bL)=some (B false):=rfl
 obtain ⟨s1,e1,g1⟩:=wO (d+7) h.nK hb (fun c hc=>(yN c hc).1) hg
 obtain ⟨s2,wz,g2,b2,z2⟩:=PX g1.wf
 obtain ⟨s3,kZ⟩:∃ s3,s3=s2.set s1.size (.cells true (cI (il g))):=⟨_,rfl⟩
 have FJ:aw 5 (Z (.ptr s1.size 0)) (AI (il g)) s2=some (tt,s3):=by rw [kZ];exact CR b2 rfl
 have b3:s3.get s1.size=some (.cells true (cI (il g))):=by rw [kZ];exact St.ar _ _ _
 have z3:s3.size=s2.size:=by rw [kZ];simp
 have g3:Gr s1 s3:=by
  rw [kZ]
  exact ⟨St.wf_set g2.wf (g2.wf.lt b2) _,by simp;omega,fun c hc=>by rw [St.aj _ _ (by omega)];exact g2.2.2 c hc⟩
 have i0:ab (Z (.ptr s1.size 0)) s3.get=some (I .i64 g.i):=ai b3 rfl
 have i1:ab (Z (.ptr s1.size 1)) s3.get=some (I .i64 0):=ai b3 rfl
 have i2:ab (Z (.ptr s1.size 2)) s3.get=some (I .i64 g.f):=ai b3 rfl
 have i3:ab (Z (.ptr s1.size 3)) s3.get=some (I .i64 g.o):=ai b3 rfl
 have i4:ab (Z (.ptr s1.size 4)) s3.get=some (I .u32 (bT 1 (bo g):Nat)):=ai b3 rfl
 have ag:aU (aG [.int .i64 0,.int .i64 0,.int .i64 0,.int .i64 0,.int .i64 0,.int .i64 0,.int .u32 0,.str []] [(0,1,(I .i64 1)),(1,1,I .i64 0),(2,1,I .i64 g.i),(3,1,I .i64 0),(4,1,I .i64 g.f),(5,1,I .i64 g.o),(6,1,I .u32 (bT 1 (bo g):Nat))])=some (AE (ic g)):=rfl
 obtain ⟨e,he⟩:∃ e,e=ic g:=⟨_,rfl⟩
 rw [← he] at ag
 obtain ⟨s4,hs4⟩:∃ s4,s4=s3.push (.cells true (cE bE)):=⟨_,rfl⟩
 have ya:aL s3 (bb [.int .i64 0,.int .i64 0,.int .i64 0,.int .i64 0,.int .i64 0,.int .i64 0,.int .u32 0,.str []])=some (Z (.ptr s3.size 0),s4):=by rw [hs4];rfl
 have g4:Gr s3 s4:=by rw [hs4];exact Gr.push g3.wf _
 have b4:s4.get s3.size=some (.cells true (cE bE)):=by rw [hs4];exact St.aq _ _
 have z4:s4.size=s3.size+1:=by rw [hs4];simp
 obtain ⟨s5,hs5⟩:∃ s5,s5=s4.set s3.size (.cells true (cE e)):=⟨_,rfl⟩
 have KX:aw 8 (Z (.ptr s3.size 0)) (AE e) s4=some (tt,s5):=by rw [hs5];exact jB b4 rfl
 have b5:s5.get s3.size=some (.cells true (cE e)):=by rw [hs5];exact St.ar _ _ _
 have g5:Gr s3 s5:=by
  rw [hs5]
  exact ⟨St.wf_set g4.wf (g4.wf.lt b4) _,by simp;omega,fun c hc=>by rw [St.aj _ _ (by omega)];exact g4.2.2 c hc⟩
 have l5:=c7 (g:=s5.get) b5
 have g15:=(g1.trans g3).trans g5
 obtain ⟨s6,e6,g6⟩:=nT (d+3) (h.gr g15) hl e
 have g16:=g15.trans g6
 have b36:s6.get s1.size=some (.cells true (cI (il g))):=(g5.trans g6).get b3 g3.wf
 have VU:=g6.get b5 g5.wf
 have Zf:=c7 (g:=s6.get) VU
 have i6:ab (Z (.ptr s1.size 0)) s6.get=some (I .i64 (k:Nat)):=by rw [← hk];exact ai b36 rfl
 have e7:=oH (s:=s6) (d+12) jb hk2
 have h6:=h.k9 g16
 have q6:ab (Z (.ptr D.p 0)) s6.get=some (Z (.ptr D.i 0)):=ai h6.st rfl
 by_cases ha:bh q e=0
 rotate_left
 · refine ⟨s6,bh q e,?_,.no h6 rfl (O3 g16) ha (.inl (by rw [he]))⟩
   rw [rZ]
   unfold f22
   simp only [Nat.add_assoc,Nat.reduceAdd] at e1 e6
   generalize R (d+13)=rr at *
   generalize bh q e=A at *
   generalize ((bT 1 (bo g):Nat):Int)=SB at *
   generalize s1.size=Xe at *
   generalize s3.size=Tm at *
   simp [np,e1,ah,wz,FJ,i0,i1,i2,i3,i4,ag,ya,KX,l5,e6,ha]
 rw [ha] at e6
 have Nw:=hno (by rw [← he];exact ha)
 have hm:cd e=true:=dN ha
 have hw:pb e:=by rw [he];exact K6 g
 have Pr:=iP (e:=e) (b:=aZ (bj e)) (by unfold eH;rw [if_pos hm])
 have Jo:=lY jb hk2
 have e8:=nW (d+10) h6.dk (ji Nw) Jo
 have SR:yI s6 bx (U (cJ g)):=by
  have:RB s6 bx (cJ g):=Rd.gr hb (fun c hc=>(yN c hc).1) g16
  unfold yI
  rw [Dr]
  exact this
 have Ut:∀ c,own bx=some c->c<s6.size/\tk ρ s.size c≠0:=fun c hc=>by
  have:=yN c hc
  refine ⟨by have:=g16.2.1;omega,?_⟩
  rw [cy this.1];omega
 by_cases Rq:(jC (cu fs):Int)+(cJ g).length<=room
 rotate_left
 · obtain ⟨s9,e9,g9⟩:=vH (d+10) h6 hn Jo SR (fun c hc=>(Ut c hc).1) (by rw [Dr];omega) (by rw [Dr];omega)
   refine ⟨s9,8,?_,.no (h6.gr g9) rfl ((O3 g16).trans (Wm g9)) (by decide) (.inr ⟨rfl,by rw [← he];exact ha,.inl (by omega)⟩)⟩
   rw [rZ]
   unfold f22
   simp only [Nat.add_assoc,Nat.reduceAdd] at e1 e6 e7 e8 e9
   generalize R (d+13)=rr at *
   generalize ((bT 1 (bo g):Nat):Int)=SB at *
   generalize s1.size=Xe at *
   generalize s3.size=Tm at *
   generalize ((k:Nat):Int)=KK at *
   simp [np,e1,ah,wz,FJ,i0,i1,i2,i3,i4,ag,ya,KX,l5,e6,i6,e7,q6,e8,e9]
 obtain ⟨ρ9,Xw,s9,e9,h9,v9,Zb⟩:=IA (d+10) h6 hn Jo Nw SR Ut (by rw [Dr];exact Rq) (by rw [Dr];omega)
 have q9:ab (Z (.ptr D.p 0)) s9.get=some (Z (.ptr D.i 0)):=ai h9.st rfl
 obtain ⟨Sw,EL,bM,c10,qG,h10,v10,RV⟩:=vQ (d+10) h9 Jo
 rw [v9,FO Nw,Dr] at v10
 have kp:=Zb.trans RV
 have YJ:s3.size<s6.size:=by have:=g6.2.1;have:=g5.2.1;have:s5.size=s4.size:=by rw [hs5];simp
                             omega
 have hs0:s.size<=s3.size:=by have:=g1.2.1;have:=g3.2.1;omega
 have SF:bM.get s3.size=some (.cells true (cE e)):=by rw [kp.kp _ YJ (by rw [mu hs0];decide)];exact VU
 have WN:=c7 (g:=bM.get) SF
 have Yg:EL.length=fs.length+1:=by
  have:=congrArg List.length v10
  rw [dm,List.length_append,dm] at this
  simpa using this
 have Uo:nN EL:=by
  refine ⟨fun f hf => ?_,by omega⟩
  have h1:vw f∈cu EL:=List.mem_map_of_mem hf
  rw [v10] at h1
  rcases List.mem_append.1 h1 with h1 | h1
  · obtain ⟨f0,Uc,e0⟩:=List.mem_map.1 h1
    have h2:=hn.1 f0 Uc
    have h3:(vw f0).nm=(vw f).nm:=by rw [e0]
    rw [show f.nm=f0.nm from h3.symm];exact h2
  · rw [List.mem_singleton] at h1
    have h3:(vw f).nm=bw k:=by rw [h1]
    rw [show f.nm=bw k from h3]
    have:=iF (k:=k);omega
 have Ul:bw k≠dL:=fun e=>by
  have:(bw k).head? = dL.head? := by rw [e]
  simp [bw,dL] at this
 have Ry:iJ EL l sure:=by
  rw [mD,v10]
  rw [mD] at oB
  rcases oB with ⟨v,hv,a1,a2,a3⟩ | ⟨a1,a2,a3⟩
  · exact .inl ⟨v,List.mem_append_left _ hv,a1,a2,a3⟩
  · refine .inr ⟨fun v hv => ?_,a2,a3⟩
    rcases List.mem_append.1 hv with hv | hv
    · exact a1 v hv
    · rw [List.mem_singleton] at hv;rw [hv];exact Ul
 have htot:jC (cu EL)=jC (cu fs)+(cJ g).length:=by
  rw [v10,Ks]
  simp [jC]
 have WM:K7 ρ Sw s bM:=(O3 g16).trans kp.k7
 by_cases pU:(jC (cu fs):Int)+(cJ g).length+(aZ (bj e)).length<=room
 rotate_left
 · obtain ⟨bO,Bf,g11⟩:=sR d h10 Uo (by rw [htot];omega) hm hw
   have h11:=h10.gr g11
   have q11:ab (Z (.ptr D.p 0)) bO.get=some (Z (.ptr D.i 0)):=ai h11.st rfl
   obtain ⟨aaG,aai,bW,c12,KE,h12,v12,Y9⟩:=tM (d+10) h11 Jo
   rw [v10,J6 Nw rfl] at v12
   refine ⟨bW,8,?_,.no h12 v12 ((WM.trans (Wm g11)).trans Y9.k7) (by decide) (.inr ⟨rfl,by rw [← he];exact ha,.inr (by rw [← he];omega)⟩)⟩
   rw [rZ]
   unfold f22
   simp only [Nat.add_assoc,Nat.reduceAdd] at e1 e6 e7 e8 e9 qG Bf KE
   generalize R (d+13)=rr at *
   generalize ((bT 1 (bo g):Nat):Int)=SB at *
   generalize s1.size=Xe at *
   generalize s3.size=Tm at *
   generalize ((k:Nat):Int)=KK at *
   simp [np,e1,ah,wz,FJ,i0,i1,i2,i3,i4,ag,ya,KX,l5,e6,i6,e7,q6,e8,e9,q9,qG,WN,Bf,q11,KE]
 obtain ⟨aaF,D11,aah,bO,Bf,h11,Va,Xx,VK,Xz,ZQ,k11⟩:=xj d h10 Ry Uo (by rw [kJ,htot];omega) hsz ha hw hl
 have v11:=qv h10.nd Xx
 rw [v10] at v11
 refine ⟨bO,0,?_,?_⟩
 · rw [rZ]
   unfold f22
   simp only [Nat.add_assoc,Nat.reduceAdd] at e1 e6 e7 e8 e9 qG Bf
   generalize R (d+13)=rr at *
   generalize ((bT 1 (bo g):Nat):Int)=SB at *
   generalize s1.size=Xe at *
   generalize s3.size=Tm at *
   generalize ((k:Nat):Int)=KK at *
   simp [np,e1,ah,wz,FJ,i0,i1,i2,i3,i4,ag,ya,KX,l5,e6,i6,e7,q6,e8,e9,q9,qG,WN,Bf]
 · rw [he] at h11 Va v11 ha pU
   exact .ok h11 Va v11 (WM.trans ⟨VK,ZQ,k11⟩) Xz ha pU
end
section
variable {ρ ρ':Nat->Nat} {s t:St} {D:mS} {room:Int} {fs fs':List Fl} {l:List bA} {q:FoS} {sure:Nat} {i m n:Nat} {e:bA} {y z bx:S} {xs:List S} {g:Sg} {ls:List dB} {P:dB->Bool} {f:FuncId}
theorem RIm.VS (h:Rd 5 s z ls.length (cells cI ls)) {j:Nat} {k:Int} {a:dB} (hn:k=j) (ha:ls[j]? = some a):∃ c p,av 5 (Z z) (I .i64 k)=some (Z (.ptr c p))/\aH 5 (Z (.ptr c p)) s.get=some (AI a):=by
 obtain ⟨c,p,h1,h2,h3⟩:=Rd.at h hn (List.getElem?_eq_some_iff.1 ha).1
 rw [jL eG ha] at h3
 exact ⟨c,p,h1,h3⟩
theorem G7 {Q:Program} {aa:ak} {fS:List (Nat×Nat)} {args:List T} {σ:St} (hc:eO Q f=true):dyn Q aa (Z (.iY f fS)) args σ=aa f (args++fS.map zm) σ:=by
 simp only [dyn,hc,if_true]
theorem xk (d:Nat) (wf:s.wf) (hz:Rd 5 s z ls.length (cells cI ls)) (zQ:∀ c,own z=some c->c<s.size) (hl:ls.length<=8000) (hc:eO Tryz.prog f=true)
 (vG:∀ a∈ls,∀ u,Gr s u->∃ u',R d f [AI a,Z (.ptr n 0)] u=some (B (P a),u')/\Gr u u') :
 ∃ t,R (d+2) 49 [Z z,Z (.iY f [(n,0)])] s=some (B (ls.any P),t)/\Gr s t:=by
 have ll:=hz.lens
 have key:∃ (t:St) (k:Int),R (d+1) 98 [Z z,Z (.iY f [(n,0)])] s=some (I .i64 k,t)/\Gr s t/\(0<=k↔ls.any P=true):=by
  obtain ⟨j,τ,lp,hj,g⟩:=aV (f:=tB (R d) 8192)
   (fun q v u=>∃ (k:Nat),q+k=ls.length/\v=[Z z,Z (.iY f [(n,0)]),I .i64 ls.length,I .i64 (k:Nat)]/\Gr s u/\(ls.drop k).any P=ls.any P)
   (fun j u=>((j = .exit 0 []/\ls.any P=false)\/∃ k:Nat,j = .ret (I .i64 (k:Nat))/\ls.any P=true)/\Gr s u) (by
   rintro q v u ⟨k,hq,rfl,g,hr⟩
   by_cases hk:k<ls.length
   · obtain ⟨a,ha⟩:∃ a,a=ls[k]:=⟨_,rfl⟩
     have xQ:ls[k]? = some a:=by rw [List.getElem?_eq_getElem hk,ha]
     rw [List.drop_eq_getElem_cons hk,← ha,List.any_cons] at hr
     obtain ⟨c,p,ix,ld⟩:=RIm.VS (Rd.gr hz zQ g) (k:=((k:Nat):Int)) rfl xQ
     obtain ⟨u',e1,g1⟩:=vG a (List.mem_of_getElem? xQ) u g
     have dy:dyn Tryz.prog (R d) (Z (.iY f [(n,0)])) [AI a] u=some (B (P a),u'):=by
      rw [G7 hc];exact e1
     have c0:((k:Nat):Int)<((ls.length:Nat):Int):=by omega
     have w1:IntKind.i64.wrap ((k:Int)+1)=((k+1:Nat):Int):=by rw [aE _ (by omega) (by omega)];omega
     cases hp:P a with
     | true =>
       right
       rw [hp] at dy hr
       refine ⟨.ret (I .i64 (k:Nat)),u',?_,(fun v h=>by cases h),.inr ⟨k,rfl,by rw [← hr];rfl⟩,g.trans g1⟩
       unfold tB
       generalize R d=rr at *
       generalize ((k+1:Nat):Int)=K1 at *
       generalize ((k:Nat):Int)=K0 at *
       generalize ((ls.length:Nat):Int)=LL at *
       simp [c0,ix,ld,dy]
     | false =>
       left
       rw [hp] at dy hr
       refine ⟨[Z z,Z (.iY f [(n,0)]),I .i64 ls.length,I .i64 ((k+1:Nat):Int)],u',q-1,?_,by omega,k+1,by omega,rfl,g.trans g1,by simpa using hr⟩
       unfold tB
       generalize R d=rr at *
       generalize ((k+1:Nat):Int)=K1 at *
       generalize ((k:Nat):Int)=K0 at *
       generalize ((ls.length:Nat):Int)=LL at *
       simp [c0,ix,ld,dy,w1]
   · right
     have hkk:k=ls.length:=by omega
     subst hkk
     rw [List.drop_length] at hr
     refine ⟨.exit 0 [],u,?_,(fun v h=>by cases h),.inl ⟨rfl,by rw [← hr];rfl⟩,g⟩
     unfold tB
     simp)
   8192 ls.length _ s ⟨0,by omega,rfl,Gr.refl wf,by simp⟩ (by omega)
  have e0:((0:Nat):Int)=0:=rfl
  rw [e0] at lp
  rcases hj with ⟨rfl,hr⟩ | ⟨k,rfl,hr⟩
  · refine ⟨τ,-1,?_,g,by rw [hr];simp⟩
    rw [Di]
    unfold f98
    simp [ll,lp]
  · refine ⟨τ,(k:Nat),?_,g,by rw [hr];simp⟩
    rw [Di]
    unfold f98
    simp [ll,lp]
 obtain ⟨t,k,e1,g1,hk⟩:=key
 refine ⟨t,?_,g1⟩
 rw [MK]
 unfold f49
 have c1:decide ((0:Int)<=k)=ls.any P:=by
  cases h:ls.any P with
  | true=>exact decide_eq_true (hk.2 h)
  | false=>exact decide_eq_false fun h'=>by rw [hk.1 h'] at h;cases h
 generalize R (d+1)=rr at *
 simp [e1,c1]
theorem Xs (a b:dB):fT (.a 5 [(0,.i),(1,.i),(2,.i),(3,.i),(4,.i)]) (AI a) (AI b)=some (B (decide (a=b))):=by
 have h:Be (.a 5 [(0,.i),(1,.i),(2,.i),(3,.i),(4,.i)]) (AI a) (AI b)=some (decide (a=b)):=by
  obtain ⟨a1,a2,a3,a4,a5⟩:=a
  obtain ⟨b1,b2,b3,b4,b5⟩:=b
  show some (decide (a1=b1)&&(decide (a2=b2)&&(decide (a3=b3)&&(decide (a4=b4)&&(decide (a5=b5)&&true)))))=some (decide (dB.mk a1 a2 a3 a4 a5=dB.mk b1 b2 b3 b4 b5))
  simp only [dB.mk.injEq,Bool.and_true,Bool.decide_and]
 simp only [fT,h]
theorem eqI (a:dB):fT (.a 5 [(0,.i),(1,.i),(2,.i),(3,.i),(4,.i)]) (AI a) (AI a)=some (B true):=by rw [Xs,decide_eq_true rfl]
def jG (vs:List FV) (a:dB):Prop:=∃ (g:Sg) (k:Nat),a=il g/\j4 g/\g.i=(k:Int)/\1<=k/\k<=64/\∃ v∈vs,v.nm=bw k/\v.l=U (cJ g)/\v.sure=v.l.length
set_option maxHeartbeats 1000000 in
theorem FY (d:Nat) (h:aX ρ s D room fs l q sure) {a:dB} (ha:jG (cu fs) a):∃ t,R (d+7) 51 [Z (.ptr D.i 0),AI a] s=some (B true,t)/\Gr s t:=by
 obtain ⟨g,k,rfl,hg,hk,jb,hk2,v,hv,lU,hvl,_⟩:=ha
 obtain ⟨s1,hs1⟩:∃ s1,s1=s.push (.cells true (cI (il g))):=⟨_,rfl⟩
 have cZ:aL s (cf (AI (il g)))=some (Z (.ptr s.size 0),s1):=by rw [hs1];rfl
 have g1:Gr s s1:=by rw [hs1];exact Gr.push h.nK _
 have b1:s1.get s.size=some (.cells true (cI (il g))):=by rw [hs1];exact St.aq _ _
 have q0:ab (Z (.ptr s.size 0)) s1.get=some (I .i64 (k:Nat)):=by rw [← hk];exact ai b1 rfl
 have e2:=oH (s:=s1) (d+5) jb hk2
 obtain ⟨y,s3,e3,g3,r3,o3⟩:=vM (d+3) (h.gr g1) (lY jb hk2) hv lU hvl
 obtain ⟨s4,e4,g4⟩:=wO d g3.wf r3 (fun c hc=>(o3 c hc).2) hg
 obtain ⟨s5,Oh,g5,b5,z5⟩:=PX g4.wf
 obtain ⟨s6,Dx⟩:∃ s6,s6=s5.set s4.size (.cells true (cI (il g))):=⟨_,rfl⟩
 have AO:aw 5 (Z (.ptr s4.size 0)) (AI (il g)) s5=some (tt,s6):=by rw [Dx];exact CR b5 rfl
 have l6:=DI (m:=s6.get) (by rw [Dx];exact St.ar _ _ _:s6.get s4.size=some (.cells true (cI (il g))))
 have g6:Gr s4 s6:=by
  rw [Dx]
  exact ⟨St.wf_set g5.wf (g5.wf.lt b5) _,by simp;omega,fun c hc=>by rw [St.aj _ _ (by omega)];exact g5.2.2 c hc⟩
 have gg:=(g3.trans g4).trans g6
 have l7:=DI (m:=s6.get) (gg.get b1 g1.wf)
 have eq:=eqI (il g)
 refine ⟨s6,?_,g1.trans gg⟩
 rw [MO]
 unfold f51
 generalize R (d+6)=rr at *
 generalize il g=a at *
 generalize s4.size=z4 at *
 generalize s.size=z0 at *
 generalize ((k:Nat):Int)=KK at *
 simp [cZ,q0,e2,e3,ah,e4,Oh,AO,l6,l7,eq]
theorem FX (d:Nat) (h:aX ρ s D room fs l q sure) (hz:Rd 5 s z ls.length (cells cI ls)) (zQ:∀ c,own z=some c->c<s.size) (hl:ls.length<=8000) (hv:s.get n=some (.cells true [.ptr D.i 0])) (hn7:n<s.size) (ha:∀ a∈ls,jG (cu fs) a) :
 ∃ t,R (d+10) 49 [Z z,Z (.iY 50 [(n,0)])] s=some (B false,t)/\Gr s t:=by
 obtain ⟨t,e,g⟩:=xk (d+8) (P:=fun _=>false) h.nK hz zQ hl (f:=50) (by kernel_rfl) (n:=n) fun a hm u gu=>by
  have hu:=h.gr gu
  obtain ⟨s1,hs1⟩:∃ s1,s1=u.push (.cells true (cI a)):=⟨_,rfl⟩
  have cZ:aL u (cf (AI a))=some (Z (.ptr u.size 0),s1):=by rw [hs1];rfl
  have g1:Gr u s1:=by rw [hs1];exact Gr.push hu.nK _
  have b1:s1.get u.size=some (.cells true (cI a)):=by rw [hs1];exact St.aq _ _
  have l1:=DI (m:=s1.get) b1
  have Nv:ab (Z (.ptr n 0)) s1.get=some (Z (.ptr D.i 0)):=ai ((gu.trans g1).get hv h.nK) rfl
  obtain ⟨s2,e2,g2⟩:=FY d (hu.gr g1) (ha a hm)
  refine ⟨s2,?_,g1.trans g2⟩
  rw [MN]
  unfold f50
  generalize R (d+7)=rr at *
  simp [cZ,Nv,l1,e2]
 refine ⟨t,?_,g⟩
 have:ls.any (fun _=>false)=false:=by simp
 rw [this] at e
 exact e
theorem vF (d:Nat) (wf:s.wf) (hz:Rd 5 s z ls.length (cells cI ls)) (zQ:∀ c,own z=some c->c<s.size) (hl:ls.length<=8000) {k:Int} (hv:s.get n=some (.cells true [.int .i64 k])) :
 (∃ t,R (d+3) 49 [Z z,Z (.iY 53 [(n,0)])] s=some (B (ls.any fun a=>decide (a.i=k)),t)/\Gr s t) ∧
 ∃ t,R (d+3) 49 [Z z,Z (.iY 80 [(n,0)])] s=some (B (ls.any fun a=>decide (a.i=k)),t)/\Gr s t:=by
 refine ⟨xk (d+1) wf hz zQ hl (by kernel_rfl) fun a hm u gu => ?_,xk (d+1) wf hz zQ hl (by kernel_rfl) fun a hm u gu => ?_⟩
 · obtain ⟨s1,hs1⟩:∃ s1,s1=u.push (.cells true (cI a)):=⟨_,rfl⟩
   have cZ:aL u (cf (AI a))=some (Z (.ptr u.size 0),s1):=by rw [hs1];rfl
   have g1:Gr u s1:=by rw [hs1];exact Gr.push gu.wf _
   have b1:s1.get u.size=some (.cells true (cI a)):=by rw [hs1];exact St.aq _ _
   have l1:ab (Z (.ptr u.size 0)) s1.get=some (I .i64 a.i):=ai b1 rfl
   have Nv:ab (Z (.ptr n 0)) s1.get=some (I .i64 k):=ai ((gu.trans g1).get hv wf) rfl
   refine ⟨s1,?_,g1⟩
   rw [MP]
   unfold f53
   simp [cZ,Nv,l1]
 · obtain ⟨s1,hs1⟩:∃ s1,s1=u.push (.cells true (cI a)):=⟨_,rfl⟩
   have cZ:aL u (cf (AI a))=some (Z (.ptr u.size 0),s1):=by rw [hs1];rfl
   have g1:Gr u s1:=by rw [hs1];exact Gr.push gu.wf _
   have b1:s1.get u.size=some (.cells true (cI a)):=by rw [hs1];exact St.aq _ _
   have l1:ab (Z (.ptr u.size 0)) s1.get=some (I .i64 a.i):=ai b1 rfl
   have Nv:ab (Z (.ptr n 0)) s1.get=some (I .i64 k):=ai ((gu.trans g1).get hv wf) rfl
   refine ⟨s1,?_,g1⟩
   rw [M3]
   unfold f80
   simp [cZ,Nv,l1]
end
def gH (ls:List dB) (nm:Bs):Bool:=nm == dL||ls.any fun a=>nm == bw a.i.toNat
def vn (vs:List FV):Prop:=∀ v∈vs,v.nm=dL\/∃ k,1<=k/\k<=64/\v.nm=bw k
theorem dz (k:Nat):bw k≠dL:=fun e=>by
 have:(bw k).head? = dL.head? := by rw [e]
 simp [bw,dL] at this
section
variable {ρ ρ':Nat->Nat} {s t u:St} {D:mS} {room:Int} {fs fs':List Fl} {l:List bA} {q:FoS} {sure:Nat} {i m n:Nat} {e:bA} {y z bx:S} {xs:List S} {g:Sg} {ls:List dB} {v1:T}
theorem NR (hl:∀ a∈ls,1<=a.i/\a.i<=64) {k:Nat} (h1:1<=k) (h2:k<=64):(ls.any fun a=>decide (a.i=(k:Int)))=gH ls (bw k):=by
 have hL:(bw k == dL)=false:=by simpa using dz k
 unfold gH
 rw [hL,Bool.false_or]
 have key:∀ a∈ls,(decide (a.i=(k:Int)))=(bw k == bw a.i.toNat):=fun a ha=>by
  have:=hl a ha
  by_cases he:a.i=(k:Int)
  · rw [decide_eq_true he]
    have:a.i.toNat=k:=by omega
    rw [this];simp
  · rw [decide_eq_false he]
    symm
    have:bw k≠bw a.i.toNat:=fun e=>he (by
     have:=mE ⟨h1,h2⟩ (j:=a.i.toNat) ⟨by omega,by omega⟩ e
     omega)
    simpa using this
 induction ls with
 | nil=>rfl
 | cons a r ih =>
   rw [List.any_cons,List.any_cons,key a List.mem_cons_self,ih (fun b hb=>hl b (List.mem_cons_of_mem _ hb)) (fun b hb=>key b (List.mem_cons_of_mem _ hb))]
set_option maxHeartbeats 4000000 in
theorem Js (d:Nat) (h:aX ρ u D room fs l q sure) (UP:u.get n=some (.cells true [.ptr D.i 0])) (lU:ρ n≠0) (hz:Rd 5 u z ls.length (cells cI ls)) (zQ:∀ c,own z=some c->c<u.size/\ρ c≠0) (hls:ls.length<=8000)
 (hid:∀ a∈ls,1<=a.i/\a.i<=64) (hnm:vn (cu fs)) (hfl:fs.length<=1000) :
 ∃ x k t τ ρ' fs',R (d+3) 29 [Z (.ptr D.i 0)] u=some (Z x,t)/\az (Z x)=some (I .i64 k)/\loops (ko (R (d+3)) 8192) 8192 [Z (.ptr n 0),v1,Z z,Z x,I .i64 k,I .i64 0] t=some (.exit 2 [v1],τ) ∧
   aX ρ' τ D room fs' l q sure/\cu fs'=(cu fs).filter (fun v=>gH ls v.nm)/\Kp ρ ρ' u τ:=by
 have Uj:∀ f∈fs,f.nm.length<=1000:=fun f hf=>by
  rcases hnm (vw f) (List.mem_map_of_mem hf) with e | ⟨k,_,_,e⟩
  · rw [show f.nm=dL from e];decide
  · rw [show f.nm=bw k from e];have:=iF (k:=k);omega
 rcases kg (d+2) h.dk Uj hfl with ⟨rfl,e⟩ | ⟨hne,e⟩
 · refine ⟨.ay,0,u,u,ρ,[],e,rfl,?_,h,rfl,Kp.refl _ _⟩
   rw [show (8192:Nat)=8191+1 from rfl,loops]
   have:ko (R (d+3)) (8191+1) [Z (.ptr n 0),v1,Z z,Z .ay,I .i64 0,I .i64 0] u=some (.exit 2 [v1],u):=by
    unfold ko
    simp
   rw [this]
 obtain ⟨ks,hks⟩:∃ ks,ks=cC (fs.map (·.nm)):=⟨_,rfl⟩
 obtain ⟨t,ht⟩:∃ t,t=u.push (.cells false (ks.map S.str)):=⟨_,rfl⟩
 rw [← hks,← ht] at e
 have g1:Gr u t:=by rw [ht];exact Gr.push h.nK _
 have bt:t.get u.size=some (.cells false (ks.map S.str)):=by rw [ht];exact St.aq _ _
 have zt:t.size=u.size+1:=by rw [ht];simp
 have eZ:ks.length=fs.length:=by rw [hks,(bC _).length_eq,List.length_map]
 have gG:∀ nm,nm∈ks↔∃ v∈cu fs,v.nm=nm:=fun nm=>by
  rw [hks,(bC _).mem_iff,← w9,List.mem_map]
 have ht9:=h.k9 g1
 have hnu:n<u.size:=h.nK.lt UP
 obtain ⟨r,hr⟩:∃ r,r=R (d+3):=⟨_,rfl⟩
 obtain ⟨jo,τ,lp,rfl,ρ',fs',H,hv,hkp⟩:=aV (f:=ko r 8192)
  (fun q0 v w=>∃ (j:Nat) (ρ':Nat->Nat) (cur:List Fl),q0+j=fs.length/\v=[Z (.ptr n 0),v1,Z z,Z (.sl u.size 0 fs.length (.grown 1)),I .i64 fs.length,I .i64 (j:Nat)]/\aX ρ' w D room cur l q sure/\cu cur=(cu fs).filter (fun v=>gH ls v.nm || !(ks.take j).contains v.nm)/\Kp (tk ρ u.size) ρ' t w)
  (fun jo w=>jo = .exit 2 [v1]/\∃ (ρ':Nat->Nat) (cur:List Fl),aX ρ' w D room cur l q sure/\cu cur=(cu fs).filter (fun v=>gH ls v.nm)/\Kp (tk ρ u.size) ρ' t w) (by
  rintro q0 v w ⟨j,ρ',cur,hq,rfl,H,hv,kp⟩
  by_cases hj:j<fs.length
  · left
    obtain ⟨nm,Ys⟩:∃ nm,nm=ks[j]:=⟨_,rfl⟩
    have hnk:ks[j]? = some nm:=by rw [List.getElem?_eq_getElem (by omega),Ys]
    have lh:ks.take (j+1)=ks.take j++[nm]:=by rw [List.take_add_one,hnk];rfl
    have Dy:w.get u.size=some (.cells false (ks.map S.str)):=by rw [kp.kp _ (by omega) (by rw [mu (Nat.le_refl _)];decide)];exact bt
    have ix:av 1 (Z (.sl u.size 0 fs.length (.grown 1))) (I .i64 (j:Nat))=some (Z (.ptr u.size j)):=by
     have:=db (e:=1) (b:=u.size) (o:=0) (c := .grown 1) (k := .i64) (n:=((j:Nat):Int)) rfl hj
     rwa [Nat.zero_add,Nat.mul_one] at this
    have ld:ab (Z (.ptr u.size j)) w.get=some (Z (.str nm)):=ai Dy (by rw [List.getElem?_map,hnk];rfl)
    have c0:((j:Nat):Int)<((fs.length:Nat):Int):=by omega
    have w1:IntKind.i64.wrap ((j:Int)+1)=((j+1:Nat):Int):=by rw [aE _ (by omega) (by omega)];omega
    have hstep:∀ b:Bool,b=gH ls nm->(cu fs).filter (fun v=>gH ls v.nm || !(ks.take (j+1)).contains v.nm)=if b=true then cu cur else qn nm (cu cur):=by
     rintro b rfl
     rw [hv,lh]
     by_cases hb:gH ls nm=true
     · rw [if_pos hb]
       apply List.filter_congr
       intro v YR
       by_cases IJ:v.nm=nm
       · rw [IJ,hb];rfl
       · simp [IJ]
     · rw [if_neg hb]
       unfold qn
       rw [List.filter_filter]
       apply List.filter_congr
       intro v YR
       by_cases IJ:v.nm=nm
       · have:gH ls nm=false:=by simpa using hb
         rw [IJ,this];simp
       · simp [IJ]
    have box:∀ (k:Int) (w0:St) (ρ0:Nat->Nat),aX ρ0 w0 D room cur l q sure->∃ w1 w2,aL w0 (bb [.int .i64 0])=some (Z (.ptr w0.size 0),w1)/\aw 1 (Z (.ptr w0.size 0)) (I .i64 k) w1=some (tt,w2)/\ab (Z (.ptr w0.size 0)) w2.get=some (I .i64 k)/\w2.get w0.size=some (.cells true [.int .i64 k])/\Gr w0 w2:=by
     intro k w0 ρ0 H0
     have b0:(w0.push (.cells true [.int .i64 0])).get w0.size=some (.cells true [.int .i64 0]):=St.aq _ _
     have b1:((w0.push (.cells true [.int .i64 0])).set w0.size (.cells true [.int .i64 k])).get w0.size=some (.cells true [.int .i64 k]):=St.ar _ _ _
     exact ⟨_,_,rfl,aW b0 (by simp),ai b1 rfl,b1,⟨St.wf_set (St.bu H0.nK _) (by simp) _,by simp,fun c hc=>by rw [St.aj _ _ (by omega),St.aD _ _ (by omega)]⟩⟩
    have YS:∃ v∈cu fs,v.nm=nm:=(gG nm).1 (List.mem_of_getElem? hnk)
    obtain ⟨v0,KO,UN⟩:=YS
    rcases hnm v0 KO with eL | ⟨k,jb,hk2,eN⟩
    · have S7:nm=dL:=by rw [← UN];exact eL
      have e1:=RP (s:=w) (d+2)
      rw [← S7] at e1
      obtain ⟨w2,w3,nw,st,l3,b3,g3⟩:=box 0 w ρ' H
      refine ⟨[Z (.ptr n 0),v1,Z z,Z (.sl u.size 0 fs.length (.grown 1)),I .i64 fs.length,I .i64 ((j+1:Nat):Int)],w3,q0-1,?_,by omega,j+1,tk ρ' w.size,cur,by omega,rfl,H.k9 g3,?_,kp.trans ⟨g3.2.1,fun c hc=>cy hc,fun c hc _=>g3.2.2 c hc⟩⟩
      · unfold ko
        simp only [Nat.add_assoc,Nat.reduceAdd] at e1
        rw [← hr] at e1
        generalize ((j+1:Nat):Int)=J1 at *
        generalize ((j:Nat):Int)=J0 at *
        generalize ((fs.length:Nat):Int)=LL at *
        generalize w.size=ws at *
        simp [c0,ix,ld,e1,nw,st,l3,w1,kN]
      · rw [hstep true (by rw [S7];unfold gH;simp),if_pos rfl]
    · have Yo:nm=bw k:=by rw [← UN];exact eN
      have e1:=NJ (s:=w) (d+2) jb hk2
      rw [← Yo] at e1
      obtain ⟨w2,w3,nw,st,l3,b3,g3⟩:=box k w ρ' H
      have hzw:Rd 5 w3 z ls.length (cells cI ls):=hz.keep fun c hc=>by
       obtain ⟨c1,c2⟩:=zQ c hc
       have:=kp.sz
       rw [g3.2.2 c (by omega),kp.kp c (by omega) (by rw [cy c1];exact c2),g1.2.2 c c1]
      have Yz:∀ c,own z=some c->c<w3.size:=fun c hc=>by have:=zQ c hc;have:=kp.sz;have:=g3.2.1;omega
      obtain ⟨w4,e4,g4⟩:=(vF d g3.wf hzw Yz hls b3).1
      rw [NR hid jb hk2,← Yo] at e4
      have P4:¬ ((k:Nat):Int)=0:=by omega
      have H4:=(H.k9 g3).gr g4
      cases hb:gH ls nm with
      | true =>
        rw [hb] at e4
        refine ⟨[Z (.ptr n 0),v1,Z z,Z (.sl u.size 0 fs.length (.grown 1)),I .i64 fs.length,I .i64 ((j+1:Nat):Int)],w4,q0-1,?_,by omega,j+1,tk ρ' w.size,cur,by omega,rfl,H4,?_,kp.trans ⟨by have:=g3.2.1;have:=g4.2.1;omega,fun c hc=>cy hc,fun c hc _=>by rw [g4.2.2 c (by have:=g3.2.1;omega),g3.2.2 c hc]⟩⟩
        · unfold ko
          have cl:rG 53 [Z (.ptr w.size 0)] []=some (Z (.iY 53 [(w.size,0)])):=rfl
          simp only [Nat.add_assoc,Nat.reduceAdd] at e1
          rw [← hr] at e1 e4
          generalize ((j+1:Nat):Int)=J1 at *
          generalize ((j:Nat):Int)=J0 at *
          generalize ((fs.length:Nat):Int)=LL at *
          generalize ((k:Nat):Int)=KK at *
          generalize w.size=ws at *
          simp [c0,ix,ld,e1,nw,st,l3,P4,cl,e4,w1,kN]
        · rw [hstep true hb.symm,if_pos rfl]
      | false =>
        rw [hb] at e4
        have hwv:w4.get n=some (.cells true [.ptr D.i 0]):=by
         have:=kp.sz
         rw [g4.2.2 n (by have:=g3.2.1;omega),g3.2.2 n (by omega),kp.kp n (by omega) (by rw [cy hnu];exact lU),g1.2.2 n hnu];exact UP
        have lv:ab (Z (.ptr n 0)) w4.get=some (Z (.ptr D.i 0)):=ai hwv rfl
        obtain ⟨ρ5,fs5,w5,c5,e5,H5,hv5,kp5⟩:=tM (n:=nm) d H4 (by rw [Yo];exact lY jb hk2)
        refine ⟨[Z (.ptr n 0),v1,Z z,Z (.sl u.size 0 fs.length (.grown 1)),I .i64 fs.length,I .i64 ((j+1:Nat):Int)],w5,q0-1,?_,by omega,j+1,ρ5,fs5,by omega,rfl,H5,?_,(kp.trans (ρ'':=tk ρ' w.size) (u:=w4) ⟨by have:=g3.2.1;have:=g4.2.1;omega,fun c hc=>cy hc,fun c hc _=>by rw [g4.2.2 c (by have:=g3.2.1;omega),g3.2.2 c hc]⟩).trans kp5⟩
        · unfold ko
          have cl:rG 53 [Z (.ptr w.size 0)] []=some (Z (.iY 53 [(w.size,0)])):=rfl
          simp only [Nat.add_assoc,Nat.reduceAdd] at e1
          rw [← hr] at e1 e4 e5
          generalize ((j+1:Nat):Int)=J1 at *
          generalize ((j:Nat):Int)=J0 at *
          generalize ((fs.length:Nat):Int)=LL at *
          generalize ((k:Nat):Int)=KK at *
          generalize w.size=ws at *
          simp [c0,ix,ld,e1,nw,st,l3,P4,cl,e4,lv,e5,w1,kN]
        · rw [hstep false hb.symm,if_neg (by decide),hv5]
  · right
    have hjj:j=fs.length:=by omega
    subst hjj
    refine ⟨.exit 2 [v1],w,?_,(fun v h=>by cases h),rfl,ρ',cur,H,?_,kp⟩
    · unfold ko
      simp
    · rw [hv]
      apply List.filter_congr
      intro v YR
      have h1:v.nm∈ks:=(gG v.nm).2 ⟨v,YR,rfl⟩
      rw [← eZ,List.take_length]
      simp [h1])
  8192 fs.length _ t ⟨0,_,fs,by omega,rfl,ht9,(List.filter_eq_self.2 fun v _=>by simp).symm,Kp.refl _ _⟩ (by omega)
 have e0:((0:Nat):Int)=0:=rfl
 rw [e0,hr] at lp
 refine ⟨_,_,t,τ,ρ',fs',e,rfl,lp,H,hv,by have:=hkp.sz;omega,fun c hc=>by rw [hkp.ro c (by omega),cy hc],fun c hc hr=>by rw [hkp.kp c (by omega) (by rw [cy hc];exact hr),g1.2.2 c hc]⟩
end
def Gw (vs:List FV) (bs:Bs):Prop:=(∀ v∈vs,v.nm=dL->v.l=U bs)/\(ik dL vs=false->bs=[])
def qW (ls:List dB) (N:Nat) (vs:List FV):List FV:=(fN dL (Ex dL N vs)).filter fun v=>gH ls v.nm
section
variable {ρ ρ':Nat->Nat} {s t:St} {D:mS} {room:Int} {fs fs':List Fl} {l es:List bA} {q:FoS} {sure:Nat} {i m:Nat} {e:bA} {y:S} {v0 v1:T} {bs:Bs}
theorem ES (d:Nat) (h:Dk s i m room fs) (ho:Gw (cu fs) bs):∃ y t c,R (d+3) 42 [Z (.ptr i 0),Z (.str dL)] s=some (.eF [.s y,.s (.int .i64 c)],t)/\Gr s t/\RB t y bs/\∀ c,own y=some c->c<t.size:=by
 cases hh:ik dL (cu fs) with
 | false =>
   have:=ho.2 hh
   subst this
   exact ⟨.ay,s,9,BP d h (ji hh) iq,Gr.refl h.wf,Rd.nil 1 s,fun c hc=>by cases hc⟩
 | true =>
   obtain ⟨k,f,hk,hnm⟩:=jQ hh
   obtain ⟨y,t,e1,g,r,o⟩:=vA d h hk (by rw [hnm];exact iq)
   rw [hnm] at e1
   refine ⟨y,t,0,e1,g,?_,fun c hc=>(o c hc).2⟩
   have hl:f.l=U bs:=ho.1 (vw f) (List.mem_map_of_mem (List.mem_of_getElem? hk)) hnm
   rw [hl] at r
   unfold yI at r
   rw [qz] at r
   exact r
theorem mM {vs:List FV} {a:dB} {g:FV->FV} (h:jG vs a):jG (jD dL g vs) a:=by
 obtain ⟨sg,k,h1,h2,h3,h4,h5,v,hv,hn,hl,hs⟩:=h
 refine ⟨sg,k,h1,h2,h3,h4,h5,v,?_,hn,hl,hs⟩
 unfold jD
 refine List.mem_map.2 ⟨v,hv,?_⟩
 rw [if_neg (by rw [hn];exact dz k)]
theorem jU {vs:List FV} {a:dB} (h:jG vs a):1<=a.i/\a.i<=64:=by
 obtain ⟨sg,k,rfl,_,h3,h4,h5,_⟩:=h
 show 1<=sg.i/\sg.i<=64
 omega
theorem mF {vs:List FV} {n:Bs} {g:FV->FV} (hg:∀ v,(g v).nm=v.nm) (h:vn vs):vn (jD n g vs):=by
 intro v hv
 obtain ⟨w,hw,rfl⟩:=List.mem_map.1 hv
 have:(if w.nm=n then g w else w).nm=w.nm:=by split<;>simp [hg]
 rw [this]
 exact h w hw
set_option maxHeartbeats 4000000 in
theorem vK (d:Nat) (hd:Dk s i m room fs) (ho:Gw (cu fs) bs) (hnm:vn (cu fs)) (hfl:fs.length<=1000) (hri:ρ i=0) (hrm:ρ m=0) (hrf:∀ f∈fs,ρ f.fb=0/\∀ c,own f.x=some c->ρ c=0) (nL:bs.length<=7900)
 {N:Nat} (SY:kT bs=(es,N)) (hN:N=(aF es).length) (hNl:N<=bs.length) (hf:bf lL es=(0,q)) (NB:∀ a∈q.l,jG (cu fs) a) (yO:q.l.length<=8000) (hw:∀ e∈es,pb e) (hl:es.length<=2000) :
 ∃ ρ' D fs' t,R (d+13) 14 [Z (.ptr i 0)] s=some (.eF [.s (.ptr D.p 0),.s (.int .i64 0)],t)/\aX ρ' t D room fs' es q es.length/\cu fs'=qW q.l N (cu fs)/\(D.i=i/\D.m=m)/\K7 ρ ρ' s t:=by
 obtain ⟨d1,d2,d3⟩:=hd.Bj
 obtain ⟨n,hn⟩:∃ n,n=s.size:=⟨_,rfl⟩
 obtain ⟨s1,hs1⟩:∃ s1,s1=s.push (.cells true [.ptr i 0]):=⟨_,rfl⟩
 have cZ:aL s (cf (Z (.ptr i 0)))=some (Z (.ptr n 0),s1):=by rw [hs1,hn];rfl
 have g1:Gr s s1:=by rw [hs1];exact Gr.push hd.wf _
 have b1:s1.get n=some (.cells true [.ptr i 0]):=by rw [hs1,hn];exact St.aq _ _
 have l1:ab (Z (.ptr n 0)) s1.get=some (Z (.ptr i 0)):=ai b1 rfl
 have z1:s1.size=s.size+1:=by rw [hs1];simp
 have np:fT .p (Z (.ptr i 0)) (Z .bL)=some (B false):=rfl
 obtain ⟨b,mp,s3,e3,H3⟩:=vv (d+10) g1.wf
 have g3:Gr s1 s3:=H3.O4
 have z3:=g3.2.1
 have hb0:s1.size<=b:=Nat.le_of_not_lt fun h=>H3.hb h trivial
 have hm0:s1.size<=mp:=Nat.le_of_not_lt fun h=>H3.hm h trivial
 have SQ:=g3.wf.lt H3.st
 have S6:=g3.wf.lt H3.Co
 have O8:=H3.bm
 obtain ⟨p,hp⟩:∃ p,p=s3.size:=⟨_,rfl⟩
 obtain ⟨s4,hs4⟩:∃ s4,s4=s3.push (.cells true (yK i b .ay .ay 0)):=⟨_,rfl⟩
 have asA:aU (aG [.bL,.ay,.ay,.bL,.int .i64 0] [(0,1,Z (.ptr i 0)),(3,1,Z (.ptr b 0))])=some (.v (.agg (yK i b .ay .ay 0))):=rfl
 have ya:aL s3 (cf (.v (.agg (yK i b .ay .ay 0))))=some (Z (.ptr p 0),s4):=by rw [hs4,hp];rfl
 have g4:Gr s3 s4:=by rw [hs4];exact Gr.push g3.wf _
 have z4:s4.size=s3.size+1:=by rw [hs4];simp
 have p4:s4.get p=some (.cells true (yK i b .ay .ay 0)):=by rw [hs4,hp];exact St.aq _ _
 have b3:=g3.get b1 g1.wf
 have b4:=g4.get b3 g3.wf
 have KD:ab (Z (.ptr n 0)) (cA 2 s3.get (Cx 3 s3.size (cf (.v (.agg (yK i b .ay .ay 0)))) []))=ab (Z (.ptr n 0)) s1.get:=DO b3 b1 rfl fun q j b' hm=>by
  rcases yd hm with rfl | hm
  · omega
  · cases hm
 have l4:ab (Z (.ptr n 0)) s4.get=some (Z (.ptr i 0)):=ai b4 rfl
 have F5:=(g1.trans g3).trans g4
 obtain ⟨KC,zU⟩:∃ KC:Nat->Nat,KC=fun c=>if c<s.size then ρ c else if c=p then 1 else if c=b then 2 else if c=mp then 3 else 9:=⟨_,rfl⟩
 have ra:∀ c,c<s.size->KC c=ρ c:=fun c hc=>by rw [zU];exact if_pos hc
 have rp:KC p=1:=by rw [zU];dsimp only;rw [if_neg (by omega),if_pos rfl]
 have rb:KC b=2:=by rw [zU];dsimp only;rw [if_neg (by omega),if_neg (by omega),if_pos rfl]
 have rm:KC mp=3:=by rw [zU];dsimp only;rw [if_neg (by omega),if_neg (by omega),if_neg (Ne.symm O8),if_pos rfl]
 have rn:KC n=9:=by rw [zU];dsimp only;rw [if_neg (by omega),if_neg (by omega),if_neg (by omega),if_neg (by omega)]
 have h4:aX KC s4 ⟨p,i,m,b,mp,.ay,.ay,.ay⟩ room fs [] lL 0 :=
  ⟨hd.gr F5,p4,Ow.nil 8 s4,Ow.nil 1 s4,(H3.kY g4).re,⟨rp,rb,rm,fun c hc=>(by cases hc),fun c hc=>(by cases hc),fun c hc=>(by cases hc),by rw [ra _ d1];exact hri,by rw [ra _ d2];exact hrm,fun f hf=>by rw [ra _ (d3 f hf).1];exact (hrf f hf).1,fun f hf c hc=>by rw [ra _ ((d3 f hf).2 c hc)];exact (hrf f hf).2 c hc⟩,
   rfl,fun e he=>(by cases he),by simp,Nat.le_refl _⟩
 obtain ⟨y,s5,c5,e5,g5,r5,o5⟩:=ES (d+9) h4.dk ho
 obtain ⟨y2,s6,e6,F6⟩:=Fw (d+1) g5.wf r5 o5 nL
 rw [SY] at e6 F6
 have z5:=g5.2.1
 have z6:=F6.gr.2.1
 obtain ⟨Tn,IW⟩:∃ Tn:Nat->Nat,Tn=fun c=>if c<s4.size then KC c else 9:=⟨_,rfl⟩
 have W9:∀ c,c<s4.size->Tn c=KC c:=fun c hc=>by rw [IW];exact if_pos hc
 have h6:aX Tn s6 ⟨p,i,m,b,mp,.ay,.ay,.ay⟩ room fs [] lL 0:=((h4.ZT W9).gr g5).gr F6.gr
 have ll:=F6.rd.lens
 have b6:s6.get n=some (.cells true [.ptr i 0]):=by rw [F6.gr.2.2 n (by omega),g5.2.2 n (by omega)];exact b4
 obtain ⟨Xf,D7,s7,lp7,h7,z7,⟨Gb,Du,zO⟩,Vy,k7⟩:=E7 (v0:=Z (.ptr n 0)) d h6 F6.rd (fun c hc=>⟨(F6.new c hc).2,by have:=(F6.new c hc).1;rw [IW];dsimp only;rw [if_neg (by omega)];decide⟩) hw hf hl
 dsimp only at Gb Du zO lp7
 have rn6:Tn n=9:=by rw [W9 n (by omega)];exact rn
 have b7:s7.get n=some (.cells true [.ptr i 0]):=by rw [k7 n (by omega) (by rw [rn6];exact .inr (by decide))];exact b6
 have l7:ab (Z (.ptr n 0)) s7.get=some (Z (.ptr i 0)):=ai b7 rfl
 have VC:=h7.st
 rw [Gb] at VC
 have Vq:ab (Z (.ptr p 1)) s7.get=some (Z D7.lx):=ai VC rfl
 have ll7:=h7.le.rd.lens
 have e8:=wD (d+11) (l:=es) VC h7.en.rd (Nat.le_refl _) (by omega)
 rw [dK,← hN] at e8
 obtain ⟨ρ8,fs8,s8,c8,e9,h8,v8,Za⟩:=Iq (d+9) h7 iq (k0:=N) (fun v hv lU=>by rw [ho.1 v hv lU,qz];exact hNl)
 obtain ⟨ρ9,Xw,s9,c9,qG,h9,v9,Zb⟩:=vQ (d+9) h8 iq
 rw [v8] at v9
 rw [Du] at e9 qG
 have E4:=Za.trans Zb
 have z8:=Za.sz
 have z9:=E4.sz
 have ZU:Xf n=9:=by rw [Vy n (by omega)];exact rn6
 have b8:s8.get n=some (.cells true [.ptr i 0]):=by rw [Za.kp n (by omega) (by rw [ZU];decide)];exact b7
 have b9:s9.get n=some (.cells true [.ptr i 0]):=by rw [E4.kp n (by omega) (by rw [ZU];decide)];exact b7
 have l8:ab (Z (.ptr n 0)) s8.get=some (Z (.ptr i 0)):=ai b8 rfl
 have Gl:=h9.st
 rw [Gb] at Gl
 have q91:ab (Z (.ptr p 1)) s9.get=some (Z D7.lx):=ai Gl rfl
 have h10:=h9.DX (Nat.le_refl es.length)
 obtain ⟨bM,lR⟩:∃ bM,bM=s9.set D7.p (.cells true (yK D7.i D7.b D7.lx D7.ex es.length)):=⟨_,rfl⟩
 rw [← lR] at h10
 have sS:aw 1 (Z (.ptr p 4)) (I .i64 (es.length:Nat)) s9=some (tt,bM):=by rw [lR,Gb];exact aW Gl (by simp)
 have Z7:bM.size=s9.size:=by rw [lR];simp
 have FI:=h10.st
 rw [Gb] at FI
 have ZB:ab (Z (.ptr p 3)) bM.get=some (Z (.ptr D7.b 0)):=ai FI rfl
 have hpn:n≠D7.p:=by rw [Gb];omega
 have SF:bM.get n=some (.cells true [.ptr i 0]):=by rw [lR,St.aj _ _ hpn];exact b9
 have rn9:ρ9 n=9:=by rw [E4.ro n (by omega)];exact ZU
 obtain ⟨z,bO,Bf,Bt⟩:=mA (d+10) h10.hf yO
 have h11:=h10.k9 Bt.gr
 have GP:=Bt.gr.get SF h10.nK
 have l11:ab (Z (.ptr n 0)) bO.get=some (Z (.ptr i 0)):=ai GP rfl
 have cl:rG 50 [Z (.ptr n 0)] []=some (Z (.iY 50 [(n,0)])):=rfl
 have UG:∀ a∈q.l,jG (cu Xw) a:=fun a ha=>by rw [v9];exact mM (mM (NB a ha))
 have zQ:∀ c,own z=some c->c<bO.size/\bM.size<=c:=fun c hc=>⟨(Bt.new c hc).2,(Bt.new c hc).1⟩
 obtain ⟨bW,KE,g12⟩:=FX (d+2) h11 Bt.rd (fun c hc=>(zQ c hc).1) yO (n:=n) (by rw [Du];exact GP) (h11.nK.lt GP) UG
 have h12:=h11.gr g12
 have PU:=g12.get GP h11.nK
 have Zc:ab (Z (.ptr n 0)) bW.get=some (Z (.ptr i 0)):=ai PU rfl
 have Yq:n<bM.size:=by omega
 have aad:Xw.length=fs.length:=by
  have:=congrArg List.length v9
  rw [dm] at this
  rw [this]
  simp [fN,Ex,jD,cu]
 obtain ⟨x,k,dX,fR,Z8,Xv,Bg,lx,Vb,Nj,jt,RW⟩:=Js (v1:=Z (.ptr p 0)) (d+9) h12 (n:=n) (by rw [Du];exact PU) (by rw [cy Yq,rn9];decide) (Bt.rd.gr (fun c hc=>(zQ c hc).1) g12) (fun c hc=>⟨by have:=zQ c hc;have:=g12.2.1;omega,by rw [mu (zQ c hc).2];decide⟩) yO
  (fun a ha=>jU (NB a ha)) (by rw [v9];exact mF (fun _=>rfl) (mF (fun _=>rfl) hnm)) (by omega)
 rw [v9] at jt
 rw [Du] at Bg
 refine ⟨Z8,D7,Xv,fR,?_,Nj,jt,⟨Du,zO⟩,?_⟩
 · rw [LN]
   unfold f14
   rw [show dL=[108,111,103] from rfl] at e5 e9 qG
   simp only [Nat.add_assoc,Nat.reduceAdd] at e3 e5 e6 e8 e9 qG Bf KE Bg Vb
   rw [Gb]
   generalize R (d+12)=rr at *
   generalize ((es.length:Nat):Int)=LL at *
   generalize ((N:Nat):Int)=NN at *
   simp [cZ,l1,np,e3,asA,ya,KD,l4,e5,ah,e6,ll,lp7,l7,Vq,ll7,e8,e9,l8,qG,q91,sS,ZB,Bf,cl,KE,Zc,Bg,lx,Vb,aQ,bK]
 · have a1:=F5.2.1
   have a2:=Bt.gr.2.1
   have a3:=g12.2.1
   have a4:=RW.sz
   refine ⟨by omega,fun c hc => ?_,fun c hc hr => ?_⟩
   · rw [RW.ro c (by omega),cy (by omega),E4.ro c (by omega),Vy c (by omega),W9 c (by omega),ra c hc]
   · have hc4:c<s4.size:=by omega
     have h6c:Tn c=ρ c:=by rw [W9 c hc4,ra c hc]
     have h7c:Xf c=ρ c:=by rw [Vy c (by omega),h6c]
     have SX:c≠D7.p:=by rw [Gb];omega
     have h9c:ρ9 c=ρ c:=by rw [E4.ro c (by omega),h7c]
     rw [RW.kp c (by omega) (by rw [cy (by omega),h9c];omega),g12.2.2 c (by omega),Bt.gr.2.2 c (by omega),lR,St.aj _ _ SX,E4.kp c (by omega) (by omega),k7 c (by omega) (by rw [h6c];exact .inr hr),F6.gr.2.2 c (by omega),g5.2.2 c hc4,F5.2.2 c hc]
end
structure vo where
 out:List bA
 there:List Nat
 view:Nat
 id:Nat
 at_:Nat
def AH (n:Nat):Bs:=[115,101,97,108,32]++(if n=0 then [49] else if n=1 then [57] else [51,51])
def kF (σ:vo) (k:Nat):vo :=
 if k%8=7 then { σ with out:=σ.out++[{ bE with k:=3,v:=(σ.view+1:Nat) }],view:=σ.view+1 }
 else if k%8=6 then { σ with out:=σ.out++[{ bE with k:=4,v:=(σ.view:Nat),x:=AH (k / 8%3) }] }
 else if 3<k%8/\0<σ.there.length then
  { σ with out:=σ.out++[{ bE with k:=2,v:=(σ.view:Nat),i:=(σ.there.getD (k / 8%σ.there.length) 0:Nat) }],
           there:=σ.there.take (k / 8%σ.there.length)++σ.there.drop (k / 8%σ.there.length+1) }
 else { out:=σ.out++[{ k:=1,v:=(σ.view:Nat),i:=(σ.id+1:Nat),t:=(k / 8%4:Nat),f:=(σ.at_:Nat),o:=(σ.at_+1+k / 8%30:Nat),u:=(k%4294967296:Nat),x:=[] }],
        there:=σ.there++[σ.id+1],view:=σ.view,id:=σ.id+1,at_:=σ.at_+1+k / 8%30 }
def bP (v:Int):Nat:=(IntKind.u64.wrap v).toNat
abbrev PH (vs:List Nat):List S:=vs.map fun n:Nat=>S.int .i64 (n:Int)
section
variable {s t:St} {x y:S} {bs cs:Bs} {i:Nat} {l m:List bA} {e n:Nat} {vs:List S}
theorem yX {s0:St} (h:Fr e s0 s x n vs) (g:Gr s0 t) (hz:s.size<=t.size) (hk:∀ c,own x=some c->t.get c=s.get c):Fr e s0 t x n vs :=
 ⟨g,h.ow.keep hk,fun c hc=>⟨(h.new c hc).1,Nat.lt_of_lt_of_le (h.new c hc).2 hz⟩⟩
theorem FE.lit' {s0:St} {e:bA} (h:FE s0 s x l) (hl:l.length<=1000000) :
 ∃ x' t s',aL s (aS 1 (aG [.int .i64 0,.int .i64 0,.int .i64 0,.int .i64 0,.int .i64 0,.int .i64 0,.int .u32 0,.str []] [(0,8,AE e)]))=some (Z (.sl s.size 0 1 (.known 1)),s')/\aJ 8 72 (Z x) (Z (.sl s.size 0 1 (.known 1))) s'=some (Z x',t)/\FE s0 t x' (l++[e])/\s.size<=t.size ∧
   (∀ b,b<s.size->own x≠some b->t.get b=s.get b)/\(own x'=none\/own x'=own x\/∃ c,own x'=some c/\s.size<=c):=by
 have L:=Fr.lit 8 h.gr.1 (n:=1) (vs:=cells cE [e]) (by simp [cE])
 obtain ⟨x',t,e1,f,hz,k,o⟩:=(h.kY L.gr).nS (by_:=72) (by omega) L.rd.src (by simp [cE]) (by omega)
 refine ⟨x',t,_,rfl,e1,?_,Nat.le_trans L.gr.2.1 hz,fun b hb ho => ?_,?_⟩
 · unfold FE
   rw [fD,List.length_append]
   exact f
 · rw [k b (Nat.lt_of_lt_of_le hb L.gr.2.1) ho,L.gr.2.2 b hb]
 · rcases o with h | h | ⟨c,h,h'⟩
   · exact .inl h
   · exact .inr (.inl h)
   · exact .inr (.inr ⟨c,h,Nat.le_trans L.gr.2.1 h'⟩)
structure Ea (s0 s:St) (o y:S) (l:List bA) (ns:List Nat):Prop where
 out:FE s0 s o l
 there:Fr 1 s0 s y ns.length (PH ns)
 ne:∀ c,own o=some c->own y≠some c
theorem Ea.lit {s0:St} {o:S} {ns:List Nat} {e:bA} (h:Ea s0 s o y l ns) (hl:l.length<=1000000) :
 ∃ x' t s',aL s (aS 1 (aG [.int .i64 0,.int .i64 0,.int .i64 0,.int .i64 0,.int .i64 0,.int .i64 0,.int .u32 0,.str []] [(0,8,AE e)]))=some (Z (.sl s.size 0 1 (.known 1)),s')/\aJ 8 72 (Z o) (Z (.sl s.size 0 1 (.known 1))) s'=some (Z x',t)/\Ea s0 t x' y (l++[e]) ns:=by
 obtain ⟨x',t,s',e1,e2,f,hz,hk,ho⟩:=FE.lit' (e:=e) h.out hl
 refine ⟨x',t,s',e1,e2,f,yX h.there f.gr hz fun c hc=>hk c (h.there.new c hc).2 fun hh=>h.ne c hh hc,fun c hc hy => ?_⟩
 rcases ho with h1 | h1 | ⟨c',h1,h2⟩
 · rw [h1] at hc;cases hc
 · rw [h1] at hc;exact h.ne c hc hy
 · rw [h1] at hc
   cases hc
   have:=(h.there.new c hy).2
   omega
theorem Ea.app {s0:St} {o z:S} {ns ms ks:List Nat} (h:Ea s0 s o y l ns) (hy:Fr 1 s0 s x ks.length (PH ks)) (eQ:own x=own y) (hz:eY 1 (Z z) s.get=some (ms.length,PH ms)) (hl:(ks.length+ms.length)*8<=140737488355328) :
 ∃ y' t,aJ 1 8 (Z x) (Z z) s=some (Z y',t)/\Ea s0 t o y' l (ks++ms):=by
 obtain ⟨y',t,e1,f,hzz,hk,ho⟩:=hy.nS (by_:=8) (by omega) hz (by simp) hl
 refine ⟨y',t,e1,yX h.out f.gr hzz fun c hc=>hk c (h.out.new c hc).2 fun hh=>h.ne c hc (by rw [← eQ];exact hh),?_,fun c hc yP => ?_⟩
 · rw [List.length_append]
   have:PH (ks++ms)=PH ks++PH ms:=by simp [PH]
   rw [this]
   exact f
 · rcases ho with h1 | h1 | ⟨c',h1,h2⟩
   · rw [h1] at yP;cases yP
   · rw [h1,eQ] at yP;exact h.ne c hc yP
   · rw [h1] at yP
     cases yP
     have:=(h.out.new c hc).2
     omega
theorem sy (k:IntKind) (a b:Nat) (h:0<b):af .rem (I k a) (I k b)=some (I k ((a%b:Nat))):=by
 rw [sx _ _ _ (by omega)];rfl
theorem sA (v:Int):IntKind.u64.wrap v=((bP v:Nat):Int):=(Int.toNat_of_nonneg (wrap_u64 v)).symm
structure C4 (σ:vo) (n:Nat):Prop where
 out:σ.out.length=n
 there:σ.there.length<=n
 view:σ.view<=n
 id:σ.id<=n
 at_:σ.at_<=30*n
theorem C4.step {σ:vo} {n:Nat} (h:C4 σ n) (k:Nat):C4 (kF σ k) (n+1):=by
 obtain ⟨h1,h2,h3,h4,h5⟩:=h
 unfold kF
 split
 · exact ⟨by simp [h1],by show σ.there.length<=_;omega,by show σ.view+1<=_;omega,by show σ.id<=_;omega,by show σ.at_<=_;omega⟩
 · split
   · exact ⟨by simp [h1],by show σ.there.length<=_;omega,by show σ.view<=_;omega,by show σ.id<=_;omega,by show σ.at_<=_;omega⟩
   · split
     · exact ⟨by simp [h1],by simp;omega,by show σ.view<=_;omega,by show σ.id<=_;omega,by show σ.at_<=_;omega⟩
     · exact ⟨by simp [h1],by simp;omega,by show σ.view<=_;omega,by show σ.id+1<=_;omega,by show σ.at_+1+k / 8%30<=_;have:=Nat.mod_lt (k / 8) (show 0<30 by decide);omega⟩
end
theorem OL:∀ n,n<3->(fI (AH n)).2.1=0:=by decide +kernel
structure Bu (σ:vo) (n:Nat):Prop where
 ok:C4 σ n
 may:σ.out.all cd=true
 wf:∀ e∈σ.out,pb e
 there:∀ k∈σ.there,1<=k/\k<=n
theorem Zn (v:Nat) (h:0<v) (k:v<=1000):cd { bE with k:=3,v:=(v:Nat) }=true:=by
 unfold cd
 rw [if_neg (by simp only;omega)]
 simp [bE]
 omega
theorem Zo (v n:Nat) (k:v<=1000) (hn:n<3):cd { bE with k:=4,v:=(v:Nat),x:=AH n }=true:=by
 unfold cd
 rw [if_neg (by simp only;omega)]
 have h1:=OL n hn
 have h2:(AH n).length<=300:=by unfold AH;split<;>(try split)<;>simp
 simp [bE,h1,h2]
theorem Zm (v i:Nat) (k:v<=1000) (h1:1<=i) (h2:i<=1000):cd { bE with k:=2,v:=(v:Nat),i:=(i:Nat) }=true:=by
 unfold cd
 rw [if_neg (by simp only;omega)]
 simp [bE,pY]
 omega
theorem Zl (v i t f o u:Nat) (k:v<=1000) (h1:1<=i) (h2:i<=1000) (h3:t<4) (h4:f<o) (h5:o<=100000):cd { k:=1,v:=(v:Nat),i:=(i:Nat),t:=(t:Nat),f:=(f:Nat),o:=(o:Nat),u:=(u:Nat),x:=[] }=true:=by
 unfold cd
 rw [if_neg (by simp only;omega)]
 simp [pY]
 omega
theorem Bu.step {σ:vo} {n:Nat} (h:Bu σ n) (hn:n<40) (k:Nat):Bu (kF σ k) (n+1):=by
 have ok:=h.ok.step k
 obtain ⟨⟨h1,h2,h3,h4,h5⟩,may,wf,there⟩:=h
 have all:∀ {l:List bA} {e:bA},l.all cd=true->cd e=true->(l++[e]).all cd=true:=fun a b=>by simp only [List.all_append,a,List.all_cons,b,List.all_nil];rfl
 have Xd:∀ {l:List bA} {e:bA},(∀ x∈l,pb x)->pb e->∀ x∈l++[e],pb x:=fun a b x hx=>by
  rcases List.mem_append.1 hx with h | h
  · exact a x h
  · rw [List.mem_singleton.1 h];exact b
 have main:(kF σ k).out.all cd=true/\(∀ e∈(kF σ k).out,pb e)/\∀ i∈(kF σ k).there,1<=i/\i<=n+1:=by
  unfold kF
  split
  · exact ⟨all may (Zn _ (by omega) (by omega)),Xd wf ⟨by simp [bE],by simp [bE]⟩,fun x hx=>by have:=there x hx;omega⟩
  · split
    · exact ⟨all may (Zo _ _ (by omega) (Nat.mod_lt _ (by decide))),Xd wf ⟨by simp [bE],by simp [bE]⟩,fun x hx=>by have:=there x hx;omega⟩
    · split
      · rename_i hc
        have hj:k / 8%σ.there.length<σ.there.length:=Nat.mod_lt _ hc.2
        have hm:=there _ (List.getElem_mem hj)
        refine ⟨all may (Zm _ _ (by omega) ?_ ?_),Xd wf ⟨by simp [bE],by simp [bE]⟩,fun x hx => ?_⟩
        · rw [List.getD_eq_getElem?_getD,List.getElem?_eq_getElem hj,Option.getD_some];exact hm.1
        · rw [List.getD_eq_getElem?_getD,List.getElem?_eq_getElem hj,Option.getD_some];omega
        · have:x∈σ.there:=by
           rcases List.mem_append.1 hx with h | h
           · exact List.mem_of_mem_take h
           · exact List.mem_of_mem_drop h
          have:=there x this
          omega
      · have l3:k / 8%30<30:=Nat.mod_lt _ (by decide)
        refine ⟨all may (Zl _ _ _ _ _ _ (by omega) (by omega) (by omega) (Nat.mod_lt _ (by decide)) (by omega) (by omega)),Xd wf ⟨by simp only;omega,by simp only;omega⟩,fun x hx => ?_⟩
        rcases List.mem_append.1 hx with h | h
        · have:=there x h;omega
        · rw [List.mem_singleton.1 h];omega
 exact ⟨ok,main.1,main.2.1,main.2.2⟩
theorem ig:∀ l:List bA,(∀ e∈l,e.x.length<=10)->(aF l).length<=92*l.length
 | [],_=>by simp [aF]
 | e::r,h=>by
   have h1:=ig r fun x hx=>h x (by simp [hx])
   have h2:e.x.length<=10:=h e (by simp)
   have h3:=bF e.v.toNat
   have h4:=jT (dY e)
   have h5:=oI e
   have h6:=qy (bj e)
   have h7:(bj e).length<=77:=by simp [bj];omega
   simp [aF]
   omega
section
variable {fs fs':List Fl} {bs cs:Bs} {l:List bA} {sure:Nat}
theorem gy.tot (h:gy fs bs):tot fs=bs.length:=by
 rcases h with ⟨rfl,rfl⟩ | ⟨f,rfl,_,hl⟩
 · rfl
 · simp [Go.Proofs.YtbohejffelipoaaGreatDoor.tot,hl,U]
theorem gy.nice (h:gy fs bs):nN fs:=by
 rcases h with ⟨rfl,rfl⟩ | ⟨f,rfl,hn,hl⟩
 · exact ⟨fun f hf=>(by cases hf),by simp⟩
 · exact ⟨fun g hg=>by rw [List.mem_singleton] at hg;rw [hg,hn];decide,by simp⟩
theorem gy.grown (h:gy fs bs) (g:Grown fs fs' cs):gy fs' (bs++cs):=by
 have hU:∀ a b:Bs,U a++U b=U (a++b):=fun a b=>by simp [U]
 rcases h with ⟨rfl,rfl⟩ | ⟨f,rfl,hn,hl⟩
 · rcases g with ⟨k,f,x,hk,_⟩ | ⟨_,fb,x,rfl⟩
   · simp at hk
   · exact .inr ⟨_,rfl,rfl,rfl⟩
 · rcases g with ⟨k,f',x,hk,_,rfl⟩ | ⟨hno,_⟩
   · have hk0:k=0:=by
      have:=(List.getElem?_eq_some_iff.1 hk).1
      simp at this
      omega
     subst hk0
     simp at hk
     subst hk
     exact .inr ⟨_,rfl,hn,by show f.l++U cs=_;rw [hl,hU]⟩
   · exact absurd hn (hno f (by simp))
theorem gy.log (h:gy fs (aF l)) (hs:∀ f∈fs,f.sure=cL l sure) (hz:fs=[]->l=[]/\sure=0):iJ fs l sure:=by
 rcases h with ⟨rfl,_⟩ | ⟨f,rfl,hn,hl⟩
 · exact .inr ⟨fun f hf=>(by cases hf),hz rfl⟩
 · exact .inl ⟨0,f,rfl,hn,hl,hs f (by simp)⟩
end
theorem qX (l:List bA) {i j:Nat} (h:i<=j):cL l i<=cL l j:=by
 unfold cL
 have:l.take j=l.take i++(l.take j).drop i:=by
  have h1:=(List.take_append_drop i (l.take j)).symm
  rwa [List.take_take,Nat.min_eq_left h] at h1
 rw [this,ef,List.length_append]
 omega
structure aaf (s0:St) (x:S) (D:mS) (u:St) (cx:S) (sure:Nat) (ks:List Nat) (ρ:Nat->Nat) (B:mS) (fs:List Fl):Prop where
 st:aX ρ u B 10000 fs (ks.map Kc) (OG ks) sure
 ol:gy fs (aF (ks.map Kc))
 lg:iJ fs (ks.map Kc) sure
 cn:Ow 1 u cx ks.length (ks.map fun k:Nat=>S.int .i64 (k:Int))
 cr:∀ c,own cx=some c->ρ c=9/\s0.size<=c
 gr:s0.size<=u.size
 ro:∀ c,c<s0.size->ρ c=9
 kp:∀ c,c<s0.size->u.get c=s0.get c
 bl:B.p=D.p/\B.i=D.i/\B.m=D.m
 rg:∀ k∈ks,1<=k/\k<=64
section
variable {ρ ρ':Nat->Nat} {s0 s t u:St} {D E:mS} {room:Int} {fs fs':List Fl} {l es:List bA} {q:FoS} {sure:Nat} {i m:Nat} {e:bA} {y x cx:S} {v0 v1:T} {bs:Bs} {ks:List Nat} {is:List Int}
end
theorem tQ (l:List dB) (a:dB):a∈tP l a/\∀ b∈l,b∈tP l a:=by
 unfold tP
 refine ⟨by simp,fun b hb => ?_⟩
 rw [← List.take_append_drop (lV l a.i) l] at hb
 rcases List.mem_append.1 hb with h | h
 · exact List.mem_append_left _ h
 · exact List.mem_append_right _ (List.mem_cons_of_mem _ h)
theorem Je {l:List dB} {id:Int} (hp:l.Pairwise fun a b=>a.i<b.i) (ht:fe l id=true):∃ y,l[lV l id]? = some y/\y.i=id:=by
 have hk:=Jg hp ht
 refine ⟨l[lV l id],List.getElem?_eq_getElem hk,?_⟩
 obtain ⟨y,hy⟩:∃ y,y=l[lV l id]:=⟨_,rfl⟩
 rw [← hy]
 have hyd:id<=y.i:=pV hp (by rw [List.drop_eq_getElem_cons hk,← hy];exact List.mem_cons_self)
 obtain ⟨x,hx,ex⟩:=List.any_eq_true.1 ht
 have F2:x.i=id:=by simpa using ex
 rw [← List.take_append_drop (lV l id) l,List.drop_eq_getElem_cons hk,← hy] at hx
 rcases List.mem_append.1 hx with h | h
 · have:=oF h
   omega
 · rcases List.mem_cons.1 h with h | h
   · rw [← h];exact F2
   · obtain ⟨j,hj⟩:=List.getElem?_of_mem h
     rw [List.getElem?_drop] at hj
     have hjl:=(List.getElem?_eq_some_iff.1 hj).1
     have h1:=List.pairwise_iff_getElem.1 hp (lV l id) (lV l id+1+j) hk hjl (by omega)
     rw [List.getElem?_eq_getElem hjl] at hj
     rw [Option.some.inj hj,← hy] at h1
     omega
theorem Lj {l:List dB} {id:Int} (hp:l.Pairwise fun a b=>a.i<b.i) (ht:fe l id=true) {b:dB} (hb:b∈xD l id):b∈l/\b.i≠id:=by
 refine ⟨(zr l id).mem hb,?_⟩
 obtain ⟨y,hy,hyi⟩:=Je hp ht
 have hk:=(List.getElem?_eq_some_iff.1 hy).1
 unfold xD at hb
 rcases List.mem_append.1 hb with h | h
 · have:=oF h
   omega
 · obtain ⟨j,hj⟩:=List.getElem?_of_mem h
   rw [List.getElem?_drop] at hj
   have hjl:=(List.getElem?_eq_some_iff.1 hj).1
   have h1:=List.pairwise_iff_getElem.1 hp (lV l id) (lV l id+1+j) hk hjl (by omega)
   rw [List.getElem?_eq_getElem hjl] at hj
   rw [List.getElem?_eq_getElem hk] at hy
   rw [Option.some.inj hj,Option.some.inj hy] at h1
   omega
theorem GZ {l:List dB} {id:Int} (hp:l.Pairwise fun a b=>a.i<b.i) (ht:fe l id=true) {b:dB} (hb:b∈l) (hne:b.i≠id):b∈xD l id:=by
 obtain ⟨y,hy,hyi⟩:=Je hp ht
 have hk:=(List.getElem?_eq_some_iff.1 hy).1
 have yP:y=l[lV l id]:=by rw [List.getElem?_eq_getElem hk] at hy;exact (Option.some.inj hy).symm
 unfold xD
 rw [← List.take_append_drop (lV l id) l,List.drop_eq_getElem_cons hk] at hb
 rcases List.mem_append.1 hb with h | h
 · exact List.mem_append_left _ h
 · rcases List.mem_cons.1 h with h | h
   · rw [← yP] at h
     rw [h] at hne
     exact absurd hyi hne
   · exact List.mem_append_right _ h
structure fB (vs:List FV) (l:List bA) (q:FoS) (sure:Nat):Prop where
 lg:Eb vs l sure
 nm:vn vs
 Gk:∀ a∈q.l,jG vs a
 own:∀ v∈vs,v.nm≠dL->∃ a∈q.l,v.nm=bw a.i.toNat
 sub:∀ n,sure<=n->n<=l.length->∀ q',bf lL (l.take n)=(0,q')->∀ a∈q'.l,a∈q.l
 w0:q.w=0
 fold:bf lL l=(0,q)
 nd:(vs.map (·.nm)).Nodup
 su:sure<=l.length
section
variable {vs vs':List FV} {l:List bA} {q:FoS} {sure:Nat} {e:bA} {g:Sg} {k:Nat} {bs:Bs}
theorem iC {v:FV} (h:v∈ei bs vs):(v.nm=dL/\True)\/(v.nm≠dL/\v∈vs):=by
 unfold ei at h
 split at h
 · obtain ⟨w,hw,rfl⟩:=List.mem_map.1 h
   by_cases hn:w.nm=dL
   · rw [if_pos hn]
     exact .inl ⟨hn,trivial⟩
   · rw [if_neg hn]
     exact .inr ⟨hn,hw⟩
 · rename_i hh
   rcases List.mem_append.1 h with h | h
   · exact .inr ⟨fun e=>hh (iQ.2 ⟨v,h,e⟩),h⟩
   · rw [List.mem_singleton] at h
     subst h
     exact .inl ⟨rfl,trivial⟩
theorem ml (n:Bs) (vs:List FV):(fN n vs).map (·.nm)=vs.map (·.nm):=kK (n:=n) (g:=fun v:FV=>⟨v.nm,v.l,v.l.length⟩) (fun _=>rfl) vs
theorem mz {v:FV} (h:v∈vs) (hn:v.nm≠dL):v∈ei bs vs:=by
 unfold ei
 split
 · exact List.mem_map.2 ⟨v,h,by rw [if_neg hn]⟩
 · exact List.mem_append_left _ h
theorem tH (h:(vs.map (·.nm)).Nodup):((ei bs vs).map (·.nm)).Nodup:=by
 unfold ei
 split
 · rw [kK (n:=dL) (g:=fun v:FV=>⟨v.nm,v.l++U bs,v.sure⟩) (fun _=>rfl)];exact h
 · rename_i hh
   rw [List.map_append,List.nodup_append]
   refine ⟨h,by simp,fun a ha b hb => ?_⟩
   simp at hb
   rw [hb]
   intro e
   obtain ⟨v,hv,lU⟩:=List.mem_map.1 ha
   exact hh (iQ.2 ⟨v,hv,by rw [lU,e]⟩)
theorem qg (h:Eb vs l sure) (hs:sure<=l.length):Eb (ei (aZ (bj e)) vs) (l++[e]) sure:=by
 have hU:∀ a b:Bs,U a++U b=U (a++b):=fun a b=>by simp [U]
 rcases h with ⟨v,hv,a1,a2,a3⟩ | ⟨a1,rfl,rfl⟩
 · have hh:ik dL vs=true:=iQ.2 ⟨v,hv,a1⟩
   refine .inl ⟨⟨v.nm,v.l++U (aZ (bj e)),v.sure⟩,?_,a1,by rw [a2,hU,ij],by rw [jz _ _ hs];exact a3⟩
   unfold ei
   rw [if_pos hh]
   exact List.mem_map.2 ⟨v,hv,by rw [if_pos a1]⟩
 · have hh:ik dL vs=false:=fG.2 a1
   refine .inl ⟨⟨dL,U (aZ (bj e)),0⟩,?_,rfl,by simp [aF],by rw [me]⟩
   unfold ei
   rw [hh]
   simp
theorem uA {a:dB} (h:jG vs a) (hv:∀ v∈vs,v.nm≠dL->v∈vs'):jG vs' a:=by
 obtain ⟨sg,k,h1,h2,h3,h4,h5,v,oC,hn,hl,hs⟩:=h
 exact ⟨sg,k,h1,h2,h3,h4,h5,v,hv v oC (by rw [hn];exact dz k),hn,hl,hs⟩
theorem AW {q':FoS} (h:fB vs l q sure) (ha:bh q e=0) (hsub:∀ a∈q.l,a∈q'.l) (hq:q'=cN q e):∀ n,sure<=n->n<=(l++[e]).length->∀ Sb,bf lL ((l++[e]).take n)=(0,Sb)->∀ a∈Sb.l,a∈q'.l:=by
 intro n hn hnl Sb Ny a jP
 rw [List.length_append,List.length_singleton] at hnl
 by_cases hlt:n<=l.length
 · rw [List.take_append_of_le_length hlt] at Ny
   exact hsub a (h.sub n hn hlt Sb Ny a jP)
 · rw [List.take_of_length_le (by simp;omega),fk h.fold ha] at Ny
   injection Ny with _ h2
   rw [hq,h2];exact jP
theorem fB.inst (h:fB vs l q sure) (hq:FZ q) (hg:j4 g) (hk:g.i=(k:Int)) (jb:1<=k) (hk2:k<=64) (ha:bh q (ic g)=0):fB (ei (aZ (bj (ic g))) (vs++[⟨bw k,U (cJ g),(cJ g).length⟩])) (l++[ic g]) (cN q (ic g)) sure:=by
 have hnl:cN q (ic g)=⟨tP q.l (il g),q.df++[g.i],q.iu,q.v,0⟩:=rfl
 have hne:∀ a∈q.l,a.i≠g.i:=fun a jP e=>by
  have h1:=hq.ev a jP
  unfold bh at ha
  rw [if_pos (dN ha),if_pos ⟨rfl,by show g.i∈q.df;rw [← e];exact h1⟩] at ha
  cases ha
 have hno:ik (bw k) vs=false:=fG.2 fun v hv e=>by
  obtain ⟨a,jP,hn⟩:=h.own v hv (by rw [e];exact dz k)
  have hr:=jU (h.Gk a jP)
  have:=mE ⟨jb,hk2⟩ (j:=a.i.toNat) ⟨by omega,by omega⟩ (by rw [← e,hn])
  exact hne a jP (by omega)
 obtain ⟨W,hW⟩:∃ W:FV,W=⟨bw k,U (cJ g),(cJ g).length⟩:=⟨_,rfl⟩
 rw [← hW]
 have SP:W.nm=bw k:=by rw [hW]
 have Rx:Eb (vs++[W]) l sure:=by
  rcases h.lg with ⟨v,hv,a1,a2,a3⟩ | ⟨a1,a2,a3⟩
  · exact .inl ⟨v,List.mem_append_left _ hv,a1,a2,a3⟩
  · refine .inr ⟨fun v hv => ?_,a2,a3⟩
    rcases List.mem_append.1 hv with hv | hv
    · exact a1 v hv
    · rw [List.mem_singleton] at hv;rw [hv,SP];exact dz k
 have hnd:((vs++[W]).map (·.nm)).Nodup:=by
  rw [List.map_append,List.nodup_append]
  refine ⟨h.nd,by simp,fun a Ds b hb e => ?_⟩
  simp at hb
  obtain ⟨v,hv,lU⟩:=List.mem_map.1 Ds
  exact fG.1 hno v hv (by rw [lU,e,hb,SP])
 rw [hnl]
 refine ⟨qg Rx h.su,fun v hv => ?_,fun a jP => ?_,fun v hv lU => ?_,AW h ha (fun a jP=>(tQ q.l (il g)).2 a jP) hnl.symm,rfl,by rw [fk h.fold ha,hnl],tH hnd,by simp;have:=h.su;omega⟩
 · rcases iC hv with ⟨hn,_⟩ | ⟨hn,hv⟩
   · exact .inl hn
   · rcases List.mem_append.1 hv with hv | hv
     · exact h.nm v hv
     · rw [List.mem_singleton] at hv
       exact .inr ⟨k,jb,hk2,by rw [hv,SP]⟩
 · rcases tR jP with rfl | jP
   · exact ⟨g,k,rfl,hg,hk,jb,hk2,W,mz (by simp) (by rw [SP];exact dz k),SP,by rw [hW],by rw [hW];simp⟩
   · exact uA (h.Gk a jP) fun v hv hn=>mz (List.mem_append_left _ hv) hn
 · rcases iC hv with ⟨hn,_⟩ | ⟨hn,hv⟩
   · exact absurd hn lU
   · rcases List.mem_append.1 hv with hv | hv
     · obtain ⟨a,jP,e⟩:=h.own v hv lU
       exact ⟨a,(tQ q.l (il g)).2 a jP,e⟩
     · rw [List.mem_singleton] at hv
       refine ⟨il g,(tQ q.l (il g)).1,?_⟩
       rw [hv,SP]
       show bw k=bw g.i.toNat
       rw [hk];rfl
theorem fB.put (h:fB vs l q sure) (jb:e.k≠1) (hk2:e.k≠2) (KO:e.v=0) (ha:bh q e=0):fB (ei (aZ (bj e)) vs) (l++[e]) (cN q e) sure:=by
 have yO:(cN q e).l=q.l/\(cN q e).w=0:=by
  unfold cN
  rw [if_neg jb,if_neg hk2]
  split
  · exact ⟨rfl,KO⟩
  · exact ⟨rfl,KO⟩
 refine ⟨qg h.lg h.su,fun v hv => ?_,fun a jP => ?_,fun v hv lU => ?_,AW h ha (fun a jP=>by rw [yO.1];exact jP) rfl,yO.2,fk h.fold ha,tH h.nd,by simp;have:=h.su;omega⟩
 · rcases iC hv with ⟨hn,_⟩ | ⟨hn,hv⟩
   · exact .inl hn
   · exact h.nm v hv
 · rw [yO.1] at jP
   exact uA (h.Gk a jP) fun v hv hn=>mz hv hn
 · rw [yO.1]
   rcases iC hv with ⟨hn,_⟩ | ⟨hn,hv⟩
   · exact absurd hn lU
   · exact h.own v hv lU
theorem mO {n:Bs} {v:FV} (h:v∈fN n vs):∃ w∈vs,v.nm=w.nm/\v.l=w.l/\(w.nm≠n->v=w)/\(w.nm=n->v.sure=v.l.length):=by
 obtain ⟨w,hw,rfl⟩:=List.mem_map.1 h
 by_cases hn:w.nm=n
 · rw [if_pos hn];exact ⟨w,hw,rfl,rfl,fun h=>absurd hn h,fun _=>rfl⟩
 · rw [if_neg hn];exact ⟨w,hw,rfl,rfl,fun _=>rfl,fun h=>absurd h hn⟩
theorem Kw {n:Bs} {f:FV->FV} {v:FV} (h:v∈vs) (hn:v.nm≠n):v∈jD n f vs:=List.mem_map.2 ⟨v,h,by rw [if_neg hn]⟩
theorem fB.sync (h:fB vs l q sure):fB (fN dL vs) l q l.length:=by
 refine ⟨?_,mF (fun _=>rfl) h.nm,fun a ha=>mM (h.Gk a ha),fun v hv lU => ?_,fun n hn hnl q' qK a ha => ?_,h.w0,h.fold,by rw [ml];exact h.nd,Nat.le_refl _⟩
 · rcases h.lg with ⟨v,hv,a1,a2,a3⟩ | ⟨a1,a2,a3⟩
   · refine .inl ⟨⟨v.nm,v.l,v.l.length⟩,List.mem_map.2 ⟨v,hv,by rw [if_pos a1]⟩,a1,a2,?_⟩
     show v.l.length=_
     rw [a2,qz,dK]
   · refine .inr ⟨fun v hv => ?_,a2,by rw [a2];rfl⟩
     obtain ⟨w,hw,e1,_⟩:=mO hv
     rw [e1];exact a1 w hw
 · obtain ⟨w,hw,e1,e2,e3,_⟩:=mO hv
   rw [e1] at lU ⊢
   exact h.own w hw lU
 · exact h.sub n (by have:=h.su;omega) hnl q' qK a ha
theorem fB.drop (h:fB vs l q sure) (hq:FZ q) (he:e.k=2) (KO:e.v=0) (hi:e.i=(k:Int)) (ha:bh q e=0):fB (qn (bw k) (fN dL (ei (aZ (bj e)) vs))) (l++[e]) (cN q e) (l++[e]).length:=by
 have hnl:cN q e=⟨xD q.l e.i,q.df,q.iu,q.v,e.v⟩:=by unfold cN;rw [if_neg (by rw [he];decide),if_pos he]
 have RL:fe q.l e.i=true:=by
  unfold bh at ha
  rw [if_pos (dN ha),if_neg (by rw [he];simp)] at ha
  by_cases ht:fe q.l e.i=false
  · rw [if_pos ⟨he,ht⟩] at ha;cases ha
  · simpa using ht
 have hrk:1<=k/\k<=64:=by
  obtain ⟨c,hc,XQ⟩:=List.any_eq_true.1 RL
  have XR:c.i=e.i:=of_decide_eq_true XQ
  have:=jU (h.Gk c hc)
  omega
 have uK:∀ a∈xD q.l e.i,a∈q.l/\a.i≠e.i:=fun a jP=>Lj hq.up RL jP
 have gG:∀ v,v∈qn (bw k) (fN dL (ei (aZ (bj e)) vs))->v.nm≠bw k/\v∈fN dL (ei (aZ (bj e)) vs):=fun v hv=>by
  have:=List.mem_filter.1 hv
  exact ⟨by simpa using this.2,this.1⟩
 have Rx:=qg (e:=e) h.lg h.su
 rw [hnl]
 refine ⟨?_,fun v hv => ?_,fun a jP => ?_,fun v hv lU => ?_,fun n hn aay q' qK a jP => ?_,KO,by rw [fk h.fold ha,hnl],?_,Nat.le_refl _⟩
 · rcases Rx with ⟨v,hv,a1,a2,a3⟩ | ⟨a1,a2,a3⟩
   · refine .inl ⟨⟨v.nm,v.l,v.l.length⟩,List.mem_filter.2 ⟨List.mem_map.2 ⟨v,hv,by rw [if_pos a1]⟩,?_⟩,a1,a2,?_⟩
     · have:=dz k
       simp only [a1]
       simpa using fun e=>this e.symm
     · show v.l.length=_
       rw [a2,qz,dK]
   · simp at a2
 · obtain ⟨w,hw,e1,_⟩:=mO (gG v hv).2
   rw [e1]
   rcases iC hw with ⟨hn,_⟩ | ⟨hn,hw⟩
   · exact .inl hn
   · exact h.nm w hw
 · obtain ⟨jP,hai⟩:=uK a jP
   obtain ⟨sg,j,h1,h2,h3,h4,h5,v,hv,lU,hvl,hvs⟩:=h.Gk a jP
   refine ⟨sg,j,h1,h2,h3,h4,h5,v,List.mem_filter.2 ⟨Kw (mz hv (by rw [lU];exact dz j)) (by rw [lU];exact dz j),?_⟩,lU,hvl,hvs⟩
   have:v.nm≠bw k:=fun e=>hai (by
    rw [lU] at e
    have:=mE ⟨h4,h5⟩ hrk e
    rw [h1]
    show sg.i=_
    omega)
   simpa using this
 · obtain ⟨hnk,hv⟩:=gG v hv
   obtain ⟨w,hw,e1,_⟩:=mO hv
   rw [e1] at lU hnk ⊢
   rcases iC hw with ⟨hn,_⟩ | ⟨hn,hw⟩
   · exact absurd hn lU
   · obtain ⟨a,jP,ea⟩:=h.own w hw lU
     refine ⟨a,GZ hq.up RL jP (fun e=>hnk (by rw [ea,e,hi];rfl)),ea⟩
 · have:n=(l++[e]).length:=by omega
   subst this
   rw [List.take_length,fk h.fold ha,hnl] at qK
   injection qK with _ h2
   rw [← h2] at jP
   exact jP
 · refine List.Nodup.sublist (List.Sublist.map _ List.filter_sublist) ?_
   rw [ml]
   exact tH h.nd
end
end Go.Proofs.YtbohejffelipoaaGreatDoor
