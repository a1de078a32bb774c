/-
  Several texts in one: what functions that the law reaches compute. No conditions but those named in each line.
-/
import Derived.Test.YtbohejffelipoaaGreatDoorFnsB
import Derived.Test.YtbohejffelipoaaGreatDoorFnsA
namespace Go.Proofs.YtbohejffelipoaaGreatDoor
open Go Go.Abs Go.Abs.F
set_option linter.unusedVariables false
def mc (bs:Bs) (most at_:Nat) (bad:Bool):Nat×Nat×Bool:=match jF bs at_ with
 | some (n,e)=>(min n most,e,bad||decide (most<n))
 | none=>(0,at_,true)
def bQ (bs:Bs) (c:UInt8):Option (bA×Bool) :=
 let p:=mc bs 1073741824 1 false
 let e0:bA:={ bC with k:=c.toNat,v:=(p.1:Nat) }
 if c.toNat=1 then
  let i:=mc bs 1073741824 p.2.1 p.2.2
  let t:=mc bs 4 i.2.1 i.2.2
  let f:=mc bs 1099511627776 t.2.1 t.2.2
  let o:=mc bs 1099511627776 f.2.1 f.2.2
  let u:=mc bs 4294967295 o.2.1 o.2.2
  some ({ e0 with i:=(i.1:Nat),t:=(t.1:Nat),f:=(f.1:Nat),o:=(o.1:Nat),u:=(u.1:Nat) },u.2.2)
 else if c.toNat=2 then
  let i:=mc bs 1073741824 p.2.1 p.2.2
  some ({ e0 with i:=(i.1:Nat) },i.2.2)
 else if c.toNat=4 then
  let m:=mc bs 300 p.2.1 p.2.2
  if m.2.2=true\/bs.length<m.2.1+m.1 then none else some ({ e0 with x:=(bs.drop m.2.1).take m.1 },m.2.2)
 else some (e0,p.2.2)
def AR (bs:Bs):Option bA:=match bs with
 | []=>none
 | c::_=>match bQ bs c with
   | none=>none
   | some (e,bad)=>if bad=false/\cV e=some bs then some e else none
section
variable {s t:St} {x y:S} {bs cs:Bs} {i:Nat}
theorem Il {bs:Bs} {most at_:Nat} {bad:Bool}:(mc bs most at_ bad).1<=most:=by
 unfold mc
 split
 · exact Nat.min_le_right _ _
 · exact Nat.zero_le _
theorem Qh {bs:Bs} {most at_:Nat} {bad:Bool} (h:at_<=bs.length):(mc bs most at_ bad).2.1<=bs.length:=by
 unfold mc
 split
 · rename_i n e he
   exact (rH he).2
 · exact h
theorem wh (d:Nat) (h:RB s x bs) (k:RB s y cs):R (d+1) 122 [Z x,Z y] s=some (B (decide (bs=cs)),s):=by
 rw [Gg]
 unfold f122
 simp [h.str,k.str]
structure uF (s0 s:St) (x:S) (bs:Bs) (at_:Nat) (bad:Bool):Prop where
 gr:Gr s0 s
 ge:s0.size+4<=s.size
 c1:s.get s0.size=some (.cells true [x])
 c2:s.get (s0.size+1)=some (.cells true (cE bC))
 c4:s.get (s0.size+2)=some (.cells true [.int .i64 (at_:Nat)])
 c5:s.get (s0.size+3)=some (.cells true [.bool bad])
 le:at_<=bs.length
theorem uF.set {s0:St} {at_:Nat} {bad:Bool} (h:uF s0 s x bs at_ bad) {b:Nat} (hb:s0.size+4<=b) (iu:b<s.size) (v:dO):uF s0 (s.set b v) x bs at_ bad :=
 ⟨⟨St.wf_set h.gr.wf iu _,by simpa using h.gr.2.1,fun c hc=>by rw [St.aj _ _ (by omega)];exact h.gr.2.2 c hc⟩,by simpa using h.ge,by rw [St.aj _ _ (by omega)];exact h.c1,by rw [St.aj _ _ (by omega)];exact h.c2,
  by rw [St.aj _ _ (by omega)];exact h.c4,by rw [St.aj _ _ (by omega)];exact h.c5,h.le⟩
theorem uF.kE {s0:St} {at_:Nat} {bad:Bool} (h:uF s0 s x bs at_ bad) (g:Gr s t):uF s0 t x bs at_ bad:=by
 have:=h.ge
 exact ⟨h.gr.trans g,Nat.le_trans h.ge g.2.1,by rw [g.2.2 _ (by omega)];exact h.c1,by rw [g.2.2 _ (by omega)];exact h.c2,by rw [g.2.2 _ (by omega)];exact h.c4,by rw [g.2.2 _ (by omega)];exact h.c5,h.le⟩
theorem Ii (d:Nat) {s0:St} {at_:Nat} {bad:Bool} (h:uF s0 s x bs at_ bad) (hx:RB s0 x bs) (eH:∀ c,own x=some c->c<s0.size) (hl:bs.length<=8000) (most:Nat) (hm:most<2 ^ 63) :
 ∃ t,R (d+2) 132 [I .u64 (most:Nat),Z (.ptr s0.size 0),Z (.ptr (s0.size+2) 0),Z (.ptr (s0.size+3) 0)] s=some (I .i64 ((mc bs most at_ bad).1:Nat),t)/\uF s0 t x bs (mc bs most at_ bad).2.1 (mc bs most at_ bad).2.2/\t.size=s.size ∧
   ∀ b,b≠s0.size+2->b≠s0.size+3->t.get b=s.get b:=by
 rw [Gl]
 unfold f132
 have hge:=h.ge
 have hle:=h.le
 have rx:RB s x bs:=hx.gr eH h.gr
 have l1:ab (Z (.ptr s0.size 0)) s.get=some (Z x):=ai h.c1 rfl
 have l4:ab (Z (.ptr (s0.size+2) 0)) s.get=some (I .i64 (at_:Nat)):=ai h.c4 rfl
 have l5:ab (Z (.ptr (s0.size+3) 0)) s.get=some (B bad):=ai h.c5 rfl
 have e1:=oz d rx (by omega) (at_:=at_) (by omega)
 obtain ⟨N,hN⟩:∃ N,N=mc bs most at_ bad:=⟨_,rfl⟩
 rw [← hN]
 obtain ⟨t1,ht1⟩:∃ t1,t1=s.set (s0.size+3) (.cells true [.bool N.2.2]):=⟨_,rfl⟩
 have xB:aw 1 (Z (.ptr (s0.size+3) 0)) (B N.2.2) s=some (tt,t1):=by rw [ht1];exact aT h.c5 (by simp)
 have ZJ:t1.get (s0.size+2)=some (.cells true [.int .i64 (at_:Nat)]):=by rw [ht1,St.aj _ _ (by omega)];exact h.c4
 obtain ⟨t2,ht2⟩:∃ t2,t2=t1.set (s0.size+2) (.cells true [.int .i64 (N.2.1:Nat)]):=⟨_,rfl⟩
 have xV:aw 1 (Z (.ptr (s0.size+2) 0)) (I .i64 (N.2.1:Nat)) t1=some (tt,t2):=by rw [ht2];exact aT ZJ (by simp)
 have z1:t1.size=s.size:=by rw [ht1];rfl
 have z2:t2.size=s.size:=by rw [ht2];exact z1
 have w1:t1.wf:=by rw [ht1];exact St.wf_set h.gr.wf (by omega) _
 have w2:t2.wf:=by rw [ht2];exact St.wf_set w1 (by omega) _
 have keep:∀ b,b≠s0.size+2->b≠s0.size+3->t2.get b=s.get b:=fun b h1 h2=>by rw [ht2,St.aj _ _ h1,ht1,St.aj _ _ h2]
 have hN1:N.2.1<=bs.length:=by rw [hN];exact Qh hle
 have cur:uF s0 t2 x bs N.2.1 N.2.2:=⟨⟨w2,by rw [z2];exact h.gr.2.1,fun b hb=>by rw [keep b (by omega) (by omega)];exact h.gr.2.2 b hb⟩,by omega,by rw [keep _ (by omega) (by omega)];exact h.c1,by rw [keep _ (by omega) (by omega)];exact h.c2,
  by rw [ht2];exact St.ar _ _ _,by rw [ht2,St.aj _ _ (by omega),ht1];exact St.ar _ _ _,hN1⟩
 refine ⟨t2,?_,cur,z2,keep⟩
 cases hv:jF bs at_ with
 | none =>
   have hn:N=(0,at_,true):=by rw [hN];unfold mc;rw [hv]
   rw [hv] at e1
   simp only [tP,if_pos hle] at e1
   rw [hn] at xB xV ⊢
   have pb:min (0:Int) ((most:Nat):Int)=0:=by omega
   have w0:IntKind.i64.wrap 0=0:=rfl
   cases bad with
   | true=>simp [l1,l4,e1,ah,l5,kF,xB,xV,pb,w0]
   | false=>simp [l1,l4,e1,ah,l5,kF,xB,xV,pb,w0]
 | some p =>
   obtain ⟨n,e⟩:=p
   have hn:N=(min n most,e,bad||decide (most<n)):=by rw [hN];unfold mc;rw [hv]
   rw [hv] at e1
   simp only [tP] at e1
   rw [hn] at xB xV ⊢
   have pb:min ((n:Nat):Int) ((most:Nat):Int)=((min n most:Nat):Int):=by omega
   have wm:IntKind.i64.wrap ((min n most:Nat):Int)=((min n most:Nat):Int):=aB _ (by omega) (by omega)
   have cm:decide (((most:Nat):Int)<((n:Nat):Int))=decide (most<n):=decide_eq_decide.2 (by omega)
   generalize ((min n most:Nat):Int)=M at *
   generalize ((n:Nat):Int)=NN at *
   generalize ((most:Nat):Int)=MM at *
   generalize decide (most<n)=dd at *
   cases bad with
   | true=>simp [l1,l4,e1,ah,l5,kF,xV,pb,wm] at xB ⊢;simp [xB,xV]
   | false=>simp [l1,l4,e1,ah,l5,kF,xV,pb,wm,cm] at xB ⊢;simp [xB,xV]
noncomputable def jU (aa:ak) (qB:List T) (zC:St):Option (T×St) :=
 bd (aG 8 (qB.getD 3 .any) zC.get) fun t71 =>
 ay (aa 133 [t71] zC) fun t72 Ae =>
 bd (ah t72 0) fun t73 =>
 bd (ah t72 1) fun t74 =>
 bd (ab (qB.getD 2 .any) Ae.get) fun t75 =>
 bd (gT (gd t75 false) (some t74)) fun t77 =>
 bd (gT (gd t75 false) (af .neq t77 (I .i64 0))) fun t78 =>
 bd (aC t75 (B true) t78) fun t79 =>
 bd (gT (gd t79 false) (some t73)) fun t81 =>
 bd (gT (gd t79 false) (ab (qB.getD 0 .any) Ae.get)) fun t82 =>
 ay (gS (gd t79 false) Ae (aa 122 [t81,t82] Ae)) fun t83 E4 =>
 bd (gT (gd t79 false) (jO .not t83)) fun t84 =>
 bd (aC t79 (B true) t84) fun t85 =>
 br t85 (bd (aU (aE [.int .i64 0,.int .i64 0,.int .i64 0,.int .i64 0,.int .i64 0,.int .i64 0,.int .u32 0,.str []] [])) fun t86 =>
 ay (aw 8 (qB.getD 1 .any) t86 E4) fun _ E5 =>
 bd (rC (aG 8 (qB.getD 1 .any) E5.get) (rT (I .i64 2) (some []))) fun WS=>bd (aQ WS) fun Ts =>
 some (Ts,E5))
 (bd (aG 8 (qB.getD 3 .any) E4.get) fun t87 =>
 ay (aw 8 (qB.getD 1 .any) t87 E4) fun _ Qp =>
 bd (rC (aG 8 (qB.getD 1 .any) Qp.get) (rT (I .i64 0) (some []))) fun WT=>bd (aQ WT) fun Xx =>
 some (Xx,Qp))
abbrev BK (o:Option bA):T:=match o with
 | some e => .eD [.agg (cE e),.s (.int .i64 0)]
 | none => .eD [.agg (cE bC),.s (.int .i64 2)]
theorem Jh (d:Nat) {s0:St} {at_:Nat} {bad:Bool} {e:bA} (h:uF s0 s x bs at_ bad) (hx:RB s0 x bs) (eH:∀ c,own x=some c->c<s0.size) (hz:s.size=s0.size+5) (he:s.get (s0.size+4)=some (.cells true (cE e))) (hw:rK e) :
 ∃ τ,jU (R (d+9)) [Z (.ptr s0.size 0),Z (.ptr (s0.size+1) 0),Z (.ptr (s0.size+3) 0),Z (.ptr (s0.size+4) 0)] s=some (BK (if bad=false/\cV e=some bs then some e else none),τ)/\Gr s0 τ:=by
 have l8:=dQ (g:=s.get) he
 unfold jU
 have fin:∀ u,Gr s u->ab (Z (.ptr (s0.size+3) 0)) u.get=some (B bad)/\ab (Z (.ptr s0.size 0)) u.get=some (Z x)/\RB u x bs/\aG 8 (Z (.ptr (s0.size+4) 0)) u.get=some (AE e) ∧
  (∀ e',aw 8 (Z (.ptr (s0.size+1) 0)) (AE e') u=some (tt,u.set (s0.size+1) (.cells true (cE e')))/\aG 8 (Z (.ptr (s0.size+1) 0)) (u.set (s0.size+1) (.cells true (cE e'))).get=some (AE e')/\Gr s0 (u.set (s0.size+1) (.cells true (cE e')))):=fun u g=>by
  have h':=h.kE g
  have he':u.get (s0.size+4)=some (.cells true (cE e)):=by rw [g.2.2 _ (by omega)];exact he
  refine ⟨ai h'.c5 rfl,ai h'.c1 rfl,hx.gr eH h'.gr,dQ he',fun e'=>⟨j6 h'.c2 rfl,dQ (St.ar _ _ _),⟨St.wf_set h'.gr.wf (by have:=h'.ge;omega) _,by simpa using h'.gr.2.1,fun b hb=>by rw [St.aj _ _ (by omega)];exact h'.gr.2.2 b hb⟩⟩⟩
 cases hm:bT e with
 | false =>
   obtain ⟨u,eu,gu⟩:=CU d h.gr.wf hm
   obtain ⟨f1,f2,f3,f4,f5⟩:=fin u gu
   obtain ⟨q1,q2,q3⟩:=f5 bC
   have hp:¬ (bad=false/\cV e=some bs):=fun hh=>by simp [cV,hm] at hh
   rw [if_neg hp]
   refine ⟨_,?_,q3⟩
   generalize u.set (s0.size+1) (.cells true (cE bC))=u2 at *
   generalize R (d+9)=r at *
   cases bad with
   | true=>simp [l8,eu,ah,f1,kF,An,q1,q2,rC,rT,aQ,bI]
   | false=>simp [l8,eu,ah,f1,kF,An,q1,q2,rC,rT,aQ,bI]
 | true =>
   obtain ⟨y,u,eu,fu⟩:=CV d h.gr.wf hm hw
   obtain ⟨f1,f2,f3,f4,f5⟩:=fin u fu.gr
   have eq:=wh (d+8) fu.rd f3
   have hput:cV e=some (bp e):=by simp [cV,hm]
   simp only [Nat.add_assoc,Nat.reduceAdd] at eq
   cases bad with
   | true =>
     obtain ⟨q1,q2,q3⟩:=f5 bC
     have hp:¬ (true=false/\cV e=some bs):=fun hh=>by simp at hh
     rw [if_neg hp]
     refine ⟨_,?_,q3⟩
     generalize u.set (s0.size+1) (.cells true (cE bC))=u2 at *
     generalize R (d+9)=r at *
     simp [l8,eu,ah,f1,kF,An,q1,q2,rC,rT,aQ,bI]
   | false =>
     by_cases hb:bp e=bs
     · obtain ⟨q1,q2,q3⟩:=f5 e
       rw [if_pos ⟨rfl,by rw [hput,hb]⟩]
       rw [decide_eq_true hb] at eq
       refine ⟨_,?_,q3⟩
       generalize u.set (s0.size+1) (.cells true (cE e))=u2 at *
       generalize R (d+9)=r at *
       simp [l8,eu,ah,f1,f2,f4,eq,q1,q2,rC,rT,aQ,bI]
     · obtain ⟨q1,q2,q3⟩:=f5 bC
       have hp:¬ (false=false/\cV e=some bs):=fun hh=>by
        rw [hput] at hh
        exact hb (by simpa using hh.2)
       rw [if_neg hp]
       rw [decide_eq_false hb] at eq
       refine ⟨_,?_,q3⟩
       generalize u.set (s0.size+1) (.cells true (cE bC))=u2 at *
       generalize R (d+9)=r at *
       simp [l8,eu,ah,f1,f2,eq,An,q1,q2,rC,rT,aQ,bI]
theorem Kb {aa:ak} {f a b c:Nat} {args:List T} {σ:St} (h:eF Tryz.prog f=true):dyn Tryz.prog aa (Z (.iP f [(a,0),(b,0),(c,0)])) args σ=aa f (args++[Z (.ptr a 0),Z (.ptr b 0),Z (.ptr c 0)]) σ:=by
 simp [dyn,h,yg]
theorem L0 (d:Nat) (wf:s.wf) (hx:RB s x bs) (eH:∀ c,own x=some c->c<s.size) (hl:bs.length<=8000):∃ τ,R (d+10) 94 [Z x] s=some (BK (AR bs),τ)/\Gr s τ:=by
 rw [LU]
 unfold f94
 obtain ⟨n,hn⟩:∃ n,n=s.size:=⟨_,rfl⟩
 obtain ⟨s1,hs1⟩:∃ s1,s1=s.push (.cells true [x]):=⟨_,rfl⟩
 have cX:aK s (ct (Z x))=some (Z (.ptr n 0),s1):=by rw [hs1,hn];rfl
 have g1:Gr s s1:=by rw [hs1];exact Gr.push wf _
 have z1:s1.size=n+1:=by rw [hs1,hn];rfl
 have b1:s1.get n=some (.cells true [x]):=by rw [hs1,hn];exact St.aq _ _
 obtain ⟨s2,pd⟩:∃ s2,s2=s1.push (.cells true (cE bC)):=⟨_,rfl⟩
 have zZ:aK s1 (ba [.int .i64 0,.int .i64 0,.int .i64 0,.int .i64 0,.int .i64 0,.int .i64 0,.int .u32 0,.str []])=some (Z (.ptr (n+1) 0),s2):=by rw [pd,← z1];rfl
 have g2:Gr s1 s2:=by rw [pd];exact Gr.push g1.wf _
 have z2:s2.size=n+2:=by rw [pd];simp [z1]
 have b2:s2.get (n+1)=some (.cells true (cE bC)):=by rw [pd,← z1];exact St.aq _ _
 have X5:s2.get n=some (.cells true [x]):=by rw [g2.2.2 n (by omega)];exact b1
 have nR:ab (Z (.ptr n 0)) s2.get=some (Z x):=ai X5 rfl
 have hlen:=hx.sW
 cases JA:bs with
 | nil =>
   rw [JA] at hlen
   have st:=j6 (e:=bC) b2 rfl
   have ld:=dQ (g:=(s2.set (n+1) (.cells true (cE bC))).get) (i:=n+1) (e:=bC) (St.ar _ _ _)
   refine ⟨s2.set (n+1) (.cells true (cE bC)),?_,⟨St.wf_set g2.wf (by omega) _,by simp;omega,fun b hb=>by rw [St.aj _ _ (by omega),g2.2.2 b (by omega),g1.2.2 b hb]⟩⟩
   generalize s2.set (n+1) (.cells true (cE bC))=s3 at *
   simp [cX,zZ,nR,hlen,An,st,ld,rC,rT,aQ,bI,AR]
 | cons c0 rest =>
   have hpos:0<bs.length:=by rw [JA];simp
   obtain ⟨s6,Cz⟩:∃ s6,s6=s2.push (.cells true [.int .i64 0]):=⟨_,rfl⟩
   have Rj:aK s2 (ba [.int .i64 0])=some (Z (.ptr (n+2) 0),s6):=by rw [Cz,← z2];rfl
   have g6:Gr s2 s6:=by rw [Cz];exact Gr.push g2.wf _
   have z6:s6.size=n+3:=by rw [Cz];simp [z2]
   have b6:s6.get (n+2)=some (.cells true [.int .i64 0]):=by rw [Cz,← z2];exact St.aq _ _
   obtain ⟨s7,fI⟩:∃ s7,s7=s6.push (.cells true [.bool false]):=⟨_,rfl⟩
   have CO:aK s6 (ba [.bool false])=some (Z (.ptr (n+3) 0),s7):=by rw [fI,← z6];rfl
   have g7:Gr s6 s7:=by rw [fI];exact Gr.push g6.wf _
   have z7:s7.size=n+4:=by rw [fI];simp [z6]
   have b7:s7.get (n+3)=some (.cells true [.bool false]):=by rw [fI,← z6];exact St.aq _ _
   have ZD:s7.get (n+2)=some (.cells true [.int .i64 0]):=by rw [g7.2.2 _ (by omega)];exact b6
   obtain ⟨s8,zV⟩:∃ s8,s8=s7.set (n+2) (.cells true [.int .i64 1]):=⟨_,rfl⟩
   have Af:aw 1 (Z (.ptr (n+2) 0)) (I .i64 1) s7=some (tt,s8):=by rw [zV];exact aT ZD (by simp)
   have ZE:s8.get (n+3)=some (.cells true [.bool false]):=by rw [zV,St.aj _ _ (by omega)];exact b7
   obtain ⟨s9,Re⟩:∃ s9,s9=s8.set (n+3) (.cells true [.bool false]):=⟨_,rfl⟩
   have E6:aw 1 (Z (.ptr (n+3) 0)) (B false) s8=some (tt,s9):=by rw [Re];exact aT ZE (by simp)
   have z9:s9.size=n+4:=by rw [Re,zV];simpa using z7
   have wf8:s8.wf:=by rw [zV];exact St.wf_set g7.wf (by omega) _
   have XN:s9.wf:=by rw [Re];exact St.wf_set wf8 (by rw [zV];simp [z7]) _
   have Im:∀ b,b<n+2->s9.get b=s2.get b:=fun b hb=>by rw [Re,St.aj _ _ (by omega),zV,St.aj _ _ (by omega),g7.2.2 b (by omega),g6.2.2 b (by omega)]
   have Ov:uF s s9 x bs 1 false:=by
    refine ⟨⟨XN,by omega,fun b hb=>by rw [Im b (by omega),g2.2.2 b (by omega),g1.2.2 b hb]⟩,by omega,by rw [← hn,Im _ (by omega)];exact X5,by rw [← hn,Im _ (by omega)];exact b2,?_,by rw [← hn,Re];exact St.ar _ _ _,by omega⟩
    rw [← hn,Re,St.aj _ _ (by omega),zV]
    exact St.ar _ _ _
   have P8:ab (Z (.ptr n 0)) s9.get=some (Z x):=by rw [hn];exact ai Ov.c1 rfl
   have Zi:RB s9 x bs:=hx.gr eH Ov.gr
   have hc0:bs[0]? = some c0:=by rw [JA];rfl
   obtain ⟨p0,EW,NZ⟩:=RB.Dl Zi (n:=0) (j:=0) rfl hc0
   have iP:rN 132 [Z (.ptr n 0),Z (.ptr (n+2) 0),Z (.ptr (n+3) 0)] []=some (Z (.iP 132 [(n,0),(n+2,0),(n+3,0)])):=rfl
   have Vt:eF Tryz.prog 132=true:=by kernel_rfl
   have dy:∀ (r:ak) (m:Int) (u:St),dyn Tryz.prog r (Z (.iP 132 [(n,0),(n+2,0),(n+3,0)])) [I .u64 m] u=r 132 [I .u64 m,Z (.ptr n 0),Z (.ptr (n+2) 0),Z (.ptr (n+3) 0)] u:=fun r m u=>Kb Vt
   have Qg:∀ (u:St) (a:Nat) (bad:Bool) (most:Nat),uF s u x bs a bad->most<2 ^ 63->∃ t,R (d+9) 132 [I .u64 (most:Nat),Z (.ptr n 0),Z (.ptr (n+2) 0),Z (.ptr (n+3) 0)] u=some (I .i64 ((mc bs most a bad).1:Nat),t)/\uF s t x bs (mc bs most a bad).2.1 (mc bs most a bad).2.2/\t.size=u.size ∧
    ∀ b,b≠n+2->b≠n+3->t.get b=u.get b:=fun u a bad most hc hm=>by
    have:=Ii (d+7) hc hx eH hl most hm
    rw [← hn] at this
    exact this
   obtain ⟨bV,sw,FP,XQ,JG⟩:=Qg s9 1 false 1073741824 Ov (by decide)
   obtain ⟨P,hP⟩:∃ P,P=mc bs 1073741824 1 false:=⟨_,rfl⟩
   rw [← hP] at sw FP
   obtain ⟨bK,Ml⟩:∃ bK,bK=bV.push (.cells true (cE bC)):=⟨_,rfl⟩
   have Ej:aK bV (ba [.int .i64 0,.int .i64 0,.int .i64 0,.int .i64 0,.int .i64 0,.int .i64 0,.int .u32 0,.str []])=some (Z (.ptr (n+4) 0),bK):=by rw [Ml,show n+4=bV.size by omega];rfl
   have g11:Gr bV bK:=by rw [Ml];exact Gr.push FP.gr.wf _
   have UW:bK.size=n+5:=by rw [Ml];simp;omega
   have FG:bK.get (n+4)=some (.cells true (cE bC)):=by rw [Ml,show n+4=bV.size by omega];exact St.aq _ _
   obtain ⟨e0,AZ⟩:∃ e0:bA,e0={ bC with k:=c0.toNat,v:=(P.1:Nat) }:=⟨_,rfl⟩
   have Oe:aU (aE [.int .i64 0,.int .i64 0,.int .i64 0,.int .i64 0,.int .i64 0,.int .i64 0,.int .u32 0,.str []] [(0,1,I .i64 (c0.toNat:Int)),(1,1,I .i64 ((P.1:Nat):Int))])=some (AE e0):=by rw [AZ];rfl
   obtain ⟨cd,sP⟩:∃ cd,cd=bK.set (n+4) (.cells true (cE e0)):=⟨_,rfl⟩
   have xC:=j6 (e:=e0) FG rfl
   rw [← sP] at xC
   have Rz:uF s cd x bs P.2.1 P.2.2:=by rw [sP];exact (FP.kE g11).set (by omega) (by omega) _
   have z12:cd.size=n+5:=by rw [sP];simpa using UW
   have Ol:cd.get (n+4)=some (.cells true (cE e0)):=by rw [sP];exact St.ar _ _ _
   have Bb:∀ (q:T) (v:S),ab q s9.get=some (Z v)->(∀ b o,q=Z (.ptr b o)->b<s.size\/b=n)->ab q (qM bV.get bV.size (.cells true [.int .i64 0,.int .i64 0,.int .i64 0,.int .i64 0,.int .i64 0,.int .i64 0,.int .u32 0,.str []]))=ab q s9.get:=by
    intro q v hq hb
    cases q with
    | any=>cases hq
    | eD _=>cases hq
    | v w=>cases w with
      | agg _=>cases hq
      | s w=>cases w with
        | ptr b o =>
          have hb':=hb b o rfl
          have e1:qM bV.get bV.size (.cells true [.int .i64 0,.int .i64 0,.int .i64 0,.int .i64 0,.int .i64 0,.int .i64 0,.int .u32 0,.str []]) b=s9.get b:=by
           rw [ij _ _ (by omega)]
           exact JG b (by omega) (by omega)
          simp only [ab,e1]
        | _=>cases hq
   have Jv:=Bb (Z (.ptr n 0)) x P8 (fun b o e=>by cases e;exact .inr rfl)
   have QK:=Bb p0 (.int .u8 c0.toNat) NZ (fun b o e=>by
    subst e
    rcases Zi.rd with ⟨h0,_⟩ | ⟨c,o',cap,w,rows,rfl,_⟩
    · omega
    · have h2:=eH c rfl
      simp only [av] at EW
      split at EW
      · cases EW;exact .inl h2
      · cases EW)
   have sN:ab (Z (.ptr (n+4) 0)) cd.get=some (I .i64 (c0.toNat:Int)):=ai Ol (by rw [AZ];rfl)
   have w0:IntKind.i64.wrap (c0.toNat:Int)=(c0.toNat:Int):=aB _ (by have:=c0.toNat_lt;omega) (by have:=c0.toNat_lt;omega)
   have hne:¬ ((bs.length:Int)=0):=by omega
   have cg:AR bs=match bQ bs c0 with
    | none=>none
    | some (e,bad)=>if bad=false/\cV e=some bs then some e else none:=by rw [JA];rfl
   rw [← JA,cg]
   have EY:∀ (u:St) (a:Nat) (bad:Bool) (e:bA) (most:Nat),(uF s u x bs a bad/\u.size=n+5/\u.get (n+4)=some (.cells true (cE e)))->most<2 ^ 63->∃ t,R (d+9) 132 [I .u64 (most:Nat),Z (.ptr n 0),Z (.ptr (n+2) 0),Z (.ptr (n+3) 0)] u=some (I .i64 ((mc bs most a bad).1:Nat),t) ∧
    (uF s t x bs (mc bs most a bad).2.1 (mc bs most a bad).2.2/\t.size=n+5/\t.get (n+4)=some (.cells true (cE e))):=fun u a bad e most hq hm=>by
    obtain ⟨t,e1,c1,z,k⟩:=Qg u a bad most hq.1 hm
    exact ⟨t,e1,c1,by rw [z];exact hq.2.1,by rw [k _ (by omega) (by omega)];exact hq.2.2⟩
   have E7:∀ (u:St) (a:Nat) (bad:Bool) (e e':bA) (off:Nat) (val:S),(uF s u x bs a bad/\u.size=n+5/\u.get (n+4)=some (.cells true (cE e)))->aO (cE e) off [val]=cE e'->off<8->∃ t,aw 1 (Z (.ptr (n+4) off)) (Z val) u=some (tt,t) ∧
    (uF s t x bs a bad/\t.size=n+5/\t.get (n+4)=some (.cells true (cE e'))):=fun u a bad e e' off val hq hs ho=>by
    have st:=aT (x:=val) hq.2.2 (by simpa [cE] using ho)
    rw [hs] at st
    exact ⟨_,st,hq.1.set (by omega) (by have:=hq.2.1;omega) _,by simpa using hq.2.1,St.ar _ _ _⟩
   have wL:∀ (u:St) (a:Nat) (bad:Bool) (e:bA),(uF s u x bs a bad/\u.size=n+5/\u.get (n+4)=some (.cells true (cE e)))->rK e->∃ τ,jU (R (d+9)) [Z (.ptr n 0),Z (.ptr (n+1) 0),Z (.ptr (n+3) 0),Z (.ptr (n+4) 0)] u=some (BK (if bad=false/\cV e=some bs then some e else none),τ)/\Gr s τ:=fun u a bad e hq hw=>by
    have:=Jh d hq.1 hx eH (by rw [← hn];exact hq.2.1) (by rw [← hn];exact hq.2.2) hw
    rw [← hn] at this
    exact this
   have UO:uF s cd x bs P.2.1 P.2.2/\cd.size=n+5/\cd.get (n+4)=some (.cells true (cE e0)):=⟨Rz,z12,Ol⟩
   have JE:rK e0:=by rw [AZ];exact ⟨Int.le_refl 0,(by decide:(0:Int)<4294967296)⟩
   obtain ⟨C,hC⟩:∃ C,C=(c0.toNat:Int):=⟨_,rfl⟩
   rw [← hC] at NZ Oe sN w0
   simp only [aA] at hlen
   have uX:=hx.sW
   have hnd:¬ bs=[]:=fun e=>by rw [e] at hpos;simp at hpos
   by_cases k1:c0.toNat=1
   · have d1:decide (C=1)=true:=decide_eq_true (by omega)
     obtain ⟨ey,ES,tU⟩:=EY cd _ _ _ 1073741824 UO (by decide)
     obtain ⟨I1,RW⟩:∃ I1,I1=mc bs 1073741824 P.2.1 P.2.2:=⟨_,rfl⟩
     rw [← RW] at ES tU
     obtain ⟨gB,QL,Na⟩:=EY ey _ _ _ 4 tU (by decide)
     obtain ⟨T1,Yt⟩:∃ T1,T1=mc bs 4 I1.2.1 I1.2.2:=⟨_,rfl⟩
     rw [← Yt] at QL Na
     obtain ⟨gH,ZK,Y9⟩:=E7 gB _ _ _ { e0 with i:=(I1.1:Nat) } 2 (.int .i64 (I1.1:Nat)) Na rfl (by omega)
     obtain ⟨gC,ZL,Za⟩:=E7 gH _ _ _ { e0 with i:=(I1.1:Nat),t:=(T1.1:Nat) } 3 (.int .i64 (T1.1:Nat)) Y9 rfl (by omega)
     obtain ⟨jd,Yb,Tk⟩:=EY gC _ _ _ 1099511627776 Za (by decide)
     obtain ⟨F1,Yp⟩:∃ F1,F1=mc bs 1099511627776 T1.2.1 T1.2.2:=⟨_,rfl⟩
     rw [← Yp] at Yb Tk
     obtain ⟨iM,Yc,Xk⟩:=EY jd _ _ _ 1099511627776 Tk (by decide)
     obtain ⟨O1,Yr⟩:∃ O1,O1=mc bs 1099511627776 F1.2.1 F1.2.2:=⟨_,rfl⟩
     rw [← Yr] at Yc Xk
     obtain ⟨lF,ZM,Zb⟩:=E7 iM _ _ _ { e0 with i:=(I1.1:Nat),t:=(T1.1:Nat),f:=(F1.1:Nat) } 4 (.int .i64 (F1.1:Nat)) Xk rfl (by omega)
     obtain ⟨oF,ZO,Zc⟩:=E7 lF _ _ _ { e0 with i:=(I1.1:Nat),t:=(T1.1:Nat),f:=(F1.1:Nat),o:=(O1.1:Nat) } 5 (.int .i64 (O1.1:Nat)) Zb rfl (by omega)
     obtain ⟨kK,Yd,Tl⟩:=EY oF _ _ _ 4294967295 Zc (by decide)
     obtain ⟨U1,Vm⟩:∃ U1,U1=mc bs 4294967295 O1.2.1 O1.2.2:=⟨_,rfl⟩
     have Ct:U1.1<=4294967295:=by rw [Vm];exact Il
     rw [← Vm] at Yd Tl
     have wU:IntKind.u32.wrap (U1.1:Int)=(U1.1:Int):=by rw [wrap32];omega
     obtain ⟨iO,ZP,UP⟩:=E7 kK _ _ _ { e0 with i:=(I1.1:Nat),t:=(T1.1:Nat),f:=(F1.1:Nat),o:=(O1.1:Nat),u:=(U1.1:Nat) } 6 (.int .u32 (U1.1:Nat)) Tl rfl (by omega)
     obtain ⟨τ,et,gt⟩:=wL iO _ _ _ UP ⟨by show (0:Int)<=(U1.1:Nat);omega,by show ((U1.1:Nat):Int)<4294967296;omega⟩
     have hres:bQ bs c0=some ({ e0 with i:=(I1.1:Nat),t:=(T1.1:Nat),f:=(F1.1:Nat),o:=(O1.1:Nat),u:=(U1.1:Nat) },U1.2.2):=by
      unfold bQ
      rw [if_pos k1]
      simp only [← hP,← RW,← Yt,← Yp,← Yr,← Vm,AZ]
     rw [hres]
     refine ⟨τ,?_,gt⟩
     clear EY E7 wL Qg Bb tU Na Y9 Za Tk Xk Zb Zc Tl UP
     generalize BK (if U1.2.2=false/\cV { e0 with i:=(I1.1:Nat),t:=(T1.1:Nat),f:=(F1.1:Nat),o:=(O1.1:Nat),u:=(U1.1:Nat) }=some bs then some { e0 with i:=(I1.1:Nat),t:=(T1.1:Nat),f:=(F1.1:Nat),o:=(O1.1:Nat),u:=(U1.1:Nat) } else none)=UY at *
     unfold jU at et
     generalize R (d+9)=r at *
     generalize ((P.1:Nat):Int)=PV at *
     generalize ((I1.1:Nat):Int)=IV at *
     generalize ((T1.1:Nat):Int)=TV at *
     generalize ((F1.1:Nat):Int)=FV at *
     generalize ((O1.1:Nat):Int)=OV at *
     generalize ((U1.1:Nat):Int)=UV at *
     have wH:r 132 [I .u64 1073741824,Z (.ptr n 0),Z (.ptr (n+2) 0),Z (.ptr (n+3) 0)] s9=some (I .i64 PV,bV):=sw
     have AB:r 132 [I .u64 1073741824,Z (.ptr n 0),Z (.ptr (n+2) 0),Z (.ptr (n+3) 0)] cd=some (I .i64 IV,ey):=ES
     have U6:r 132 [I .u64 4,Z (.ptr n 0),Z (.ptr (n+2) 0),Z (.ptr (n+3) 0)] ey=some (I .i64 TV,gB):=QL
     have U7:r 132 [I .u64 1099511627776,Z (.ptr n 0),Z (.ptr (n+2) 0),Z (.ptr (n+3) 0)] gC=some (I .i64 FV,jd):=Yb
     have U8:r 132 [I .u64 1099511627776,Z (.ptr n 0),Z (.ptr (n+2) 0),Z (.ptr (n+3) 0)] jd=some (I .i64 OV,iM):=Yc
     have U9:r 132 [I .u64 4294967295,Z (.ptr n 0),Z (.ptr (n+2) 0),Z (.ptr (n+3) 0)] oF=some (I .i64 UV,kK):=Yd
     simpa [cX,zZ,nR,uX,hnd,Rj,CO,Af,E6,iP,P8,EW,NZ,w0,dy,wH,Oe,Ej,xC,Jv,QK,sN,d1,AB,U6,ZK,ZL,U7,U8,ZM,ZO,U9,wU,ZP] using et
   · have d1:decide (C=1)=false:=decide_eq_false (by omega)
     by_cases k2:c0.toNat=2
     · have d2:decide (C=2)=true:=decide_eq_true (by omega)
       obtain ⟨ey,ES,tU⟩:=EY cd _ _ _ 1073741824 UO (by decide)
       obtain ⟨I1,RW⟩:∃ I1,I1=mc bs 1073741824 P.2.1 P.2.2:=⟨_,rfl⟩
       rw [← RW] at ES tU
       obtain ⟨gB,QL,Na⟩:=E7 ey _ _ _ { e0 with i:=(I1.1:Nat) } 2 (.int .i64 (I1.1:Nat)) tU rfl (by omega)
       obtain ⟨τ,et,gt⟩:=wL gB _ _ _ Na JE
       have hres:bQ bs c0=some ({ e0 with i:=(I1.1:Nat) },I1.2.2):=by
        unfold bQ
        rw [if_neg k1,if_pos k2]
        simp only [← hP,← RW,AZ]
       rw [hres]
       refine ⟨τ,?_,gt⟩
       clear EY E7 wL Qg Bb tU Na
       generalize BK (if I1.2.2=false/\cV { e0 with i:=(I1.1:Nat) }=some bs then some { e0 with i:=(I1.1:Nat) } else none)=UY at *
       unfold jU at et
       generalize R (d+9)=r at *
       generalize ((P.1:Nat):Int)=PV at *
       generalize ((I1.1:Nat):Int)=IV at *
       have wH:r 132 [I .u64 1073741824,Z (.ptr n 0),Z (.ptr (n+2) 0),Z (.ptr (n+3) 0)] s9=some (I .i64 PV,bV):=sw
       have AB:r 132 [I .u64 1073741824,Z (.ptr n 0),Z (.ptr (n+2) 0),Z (.ptr (n+3) 0)] cd=some (I .i64 IV,ey):=ES
       simpa [cX,zZ,nR,uX,hnd,Rj,CO,Af,E6,iP,P8,EW,NZ,w0,dy,wH,Oe,Ej,xC,Jv,QK,sN,d1,d2,AB,QL] using et
     · have d2:decide (C=2)=false:=decide_eq_false (by omega)
       by_cases k4:c0.toNat=4
       · have d4:decide (C=4)=true:=decide_eq_true (by omega)
         obtain ⟨ey,ES,tU⟩:=EY cd _ _ _ 300 UO (by decide)
         obtain ⟨M1,hM1⟩:∃ M1,M1=mc bs 300 P.2.1 P.2.2:=⟨_,rfl⟩
         have hMl:M1.1<=300:=by rw [hM1];exact Il
         rw [← hM1] at ES tU
         have hat:=tU.1.le
         have lb:ab (Z (.ptr (n+3) 0)) ey.get=some (B M1.2.2):=by rw [hn];exact ai tU.1.c5 rfl
         have lx:ab (Z (.ptr n 0)) ey.get=some (Z x):=by rw [hn];exact ai tU.1.c1 rfl
         have la:ab (Z (.ptr (n+2) 0)) ey.get=some (I .i64 (M1.2.1:Nat)):=by rw [hn];exact ai tU.1.c4 rfl
         have l2:ey.get (n+1)=some (.cells true (cE bC)):=by rw [hn];exact tU.1.c2
         have TE:IntKind.i64.wrap ((bs.length:Int)-((M1.2.1:Nat):Int))=(bs.length:Int)-((M1.2.1:Nat):Int):=aB _ (by omega) (by omega)
         have XL:IntKind.i64.wrap (((M1.2.1:Nat):Int)+((M1.1:Nat):Int))=((M1.2.1+M1.1:Nat):Int):=by rw [aB _ (by omega) (by omega)];omega
         have wH:R (d+9) 132 [I .u64 1073741824,Z (.ptr n 0),Z (.ptr (n+2) 0),Z (.ptr (n+3) 0)] s9=some (I .i64 ((P.1:Nat):Int),bV):=sw
         have AB:R (d+9) 132 [I .u64 300,Z (.ptr n 0),Z (.ptr (n+2) 0),Z (.ptr (n+3) 0)] cd=some (I .i64 ((M1.1:Nat):Int),ey):=ES
         by_cases jB:M1.2.2=true\/bs.length<M1.2.1+M1.1
         · have hres:bQ bs c0=none:=by
            unfold bQ
            rw [if_neg k1,if_neg k2,if_pos k4]
            simp only [← hP,← hM1]
            rw [if_pos jB]
           rw [hres]
           have st:=j6 (e:=bC) l2 rfl
           have ld:=dQ (g:=(ey.set (n+1) (.cells true (cE bC))).get) (i:=n+1) (e:=bC) (St.ar _ _ _)
           refine ⟨ey.set (n+1) (.cells true (cE bC)),?_,⟨St.wf_set tU.1.gr.wf (by have:=tU.2.1;omega) _,by simpa using tU.1.gr.2.1,fun b hb=>by rw [St.aj _ _ (by omega)];exact tU.1.gr.2.2 b hb⟩⟩
           clear EY E7 wL Qg Bb tU
           generalize ey.set (n+1) (.cells true (cE bC))=gB at *
           generalize R (d+9)=r at *
           cases iu:M1.2.2 with
           | true =>
             rw [iu] at lb
             generalize ((P.1:Nat):Int)=PV at *
             generalize ((M1.1:Nat):Int)=MV at *
             simp [cX,zZ,nR,uX,hnd,Rj,CO,Af,E6,iP,P8,EW,NZ,w0,dy,wH,Oe,Ej,xC,Jv,QK,sN,d1,d2,d4,AB,lb,kF,An,st,ld,rC,rT,aQ,bI]
           | false =>
             rw [iu] at lb jB
             have hgt:(bs.length:Int)-((M1.2.1:Nat):Int)<((M1.1:Nat):Int):=by
              rcases jB with h | h
              · cases h
              · omega
             have dgt:decide ((bs.length:Int)-((M1.2.1:Nat):Int)<((M1.1:Nat):Int))=true:=decide_eq_true hgt
             generalize ((P.1:Nat):Int)=PV at *
             generalize ((M1.1:Nat):Int)=MV at *
             generalize ((M1.2.1:Nat):Int)=AV at *
             simp [cX,zZ,nR,uX,hnd,Rj,CO,Af,E6,iP,P8,EW,NZ,w0,dy,wH,Oe,Ej,xC,Jv,QK,sN,d1,d2,d4,AB,lb,lx,la,TE,hgt,An,st,ld,rC,rT,aQ,bI]
         · have iu:M1.2.2=false:=by
            cases h:M1.2.2 with
            | false=>rfl
            | true=>exact absurd (.inl h) jB
           have hle:M1.2.1+M1.1<=bs.length:=by
            apply Nat.le_of_not_lt
            exact fun h=>jB (.inr h)
           have hgt:¬ ((bs.length:Int)-((M1.2.1:Nat):Int)<((M1.1:Nat):Int)):=by omega
           rw [iu] at lb
           have XE:RB ey x bs:=hx.gr eH tU.1.gr
           obtain ⟨y,pc,ry,_⟩:=XE.piece (lo:=M1.2.1) (hi:=M1.2.1+M1.1) (by omega) hle
           have hpl:M1.2.1+M1.1-M1.2.1=M1.1:=by omega
           rw [hpl,Nat.mul_one,Nat.mul_one,vW,jJ] at ry
           have ry':RB ey y ((bs.drop M1.2.1).take M1.1):=by
            have:((bs.drop M1.2.1).take M1.1).length=M1.1:=by rw [List.length_take,List.length_drop];omega
            unfold RB
            rw [this]
            exact ry
           have Wn:=ry'.str
           obtain ⟨gB,QL,Na⟩:=E7 ey _ _ _ { e0 with x:=(bs.drop M1.2.1).take M1.1 } 7 (.str ((bs.drop M1.2.1).take M1.1)) tU rfl (by omega)
           obtain ⟨τ,et,gt⟩:=wL gB _ _ _ Na JE
           have hres:bQ bs c0=some ({ e0 with x:=(bs.drop M1.2.1).take M1.1 },M1.2.2):=by
            unfold bQ
            rw [if_neg k1,if_neg k2,if_pos k4]
            simp only [← hP,← hM1]
            rw [if_neg jB,AZ]
           rw [hres]
           refine ⟨τ,?_,gt⟩
           clear EY E7 wL Qg Bb tU Na
           generalize BK (if M1.2.2=false/\cV { e0 with x:=(bs.drop M1.2.1).take M1.1 }=some bs then some { e0 with x:=(bs.drop M1.2.1).take M1.1 } else none)=UY at *
           unfold jU at et
           generalize R (d+9)=r at *
           generalize (bs.drop M1.2.1).take M1.1=XX at *
           generalize ((P.1:Nat):Int)=PV at *
           generalize ((M1.2.1+M1.1:Nat):Int)=BV at *
           generalize ((M1.1:Nat):Int)=MV at *
           generalize ((M1.2.1:Nat):Int)=AV at *
           simpa [cX,zZ,nR,uX,hnd,Rj,CO,Af,E6,iP,P8,EW,NZ,w0,dy,wH,Oe,Ej,xC,Jv,QK,sN,d1,d2,d4,AB,lb,lx,la,TE,hgt,XL,pc,Wn,QL] using et
       · have d4:decide (C=4)=false:=decide_eq_false (by omega)
         obtain ⟨τ,et,gt⟩:=wL cd _ _ _ UO JE
         have hres:bQ bs c0=some (e0,P.2.2):=by
          unfold bQ
          rw [if_neg k1,if_neg k2,if_neg k4]
          simp only [← hP,AZ]
         rw [hres]
         refine ⟨τ,?_,gt⟩
         clear EY E7 wL Qg Bb
         generalize BK (if P.2.2=false/\cV e0=some bs then some e0 else none)=UY at *
         unfold jU at et
         generalize R (d+9)=r at *
         generalize ((P.1:Nat):Int)=PV at *
         have wH:r 132 [I .u64 1073741824,Z (.ptr n 0),Z (.ptr (n+2) 0),Z (.ptr (n+3) 0)] s9=some (I .i64 PV,bV):=sw
         simpa [cX,zZ,nR,uX,hnd,Rj,CO,Af,E6,iP,P8,EW,NZ,w0,dy,wH,Oe,Ej,xC,Jv,QK,sN,d1,d2,d4] using et
end
theorem qz (n:Nat):∀ a b:Bs,bN n (a++b)=bN (bN n a) b
 | [],b=>rfl
 | c::a,b=>qz _ a b
def aX (bs:Bs):Bs:=aP bs.length++four (bN 1 (aP bs.length++bs))++bs
def eA (bs:Bs) (at_:Nat):Option (Bs×Nat):=match jF bs at_ with
 | none=>none
 | some (n,to)=>if bs.length<to+4\/bs.length-to-4<n then none else
   if (bs.drop at_).take (to+4+n-at_)=aX ((bs.drop (to+4)).take n) then some ((bs.drop (to+4)).take n,to+4+n) else none
def eB (e:bA):Option Bs:=if bT e then some (aX (bp e)) else none
def aD:List bA->Bs
 | []=>[]
 | e::r=>aX (bp e)++aD r
def mH (bs:Bs):Nat->Nat->List bA->List bA×Nat
 | 0,at_,acc=>(acc,at_)
 | f+1,at_,acc=>match eA bs at_ with
   | none=>(acc,at_)
   | some (x,to)=>match AR x with
     | none=>(acc,at_)
     | some e=>mH bs f to (acc++[e])
def kA (bs:Bs):List bA×Nat:=mH bs 2000 0 []
abbrev RE (s:St) (x:S) (l:List bA):Prop:=Rd 8 s x l.length (cells cE l)
abbrev FE (s0 s:St) (x:S) (l:List bA):Prop:=Fr 8 s0 s x l.length (cells cE l)
section
variable {s t:St} {x y:S} {bs cs:Bs} {i:Nat} {l m:List bA}
theorem RE.X4 (h:RE s x l) {j:Nat} {n:Int} {e:bA} (hn:n=j) (he:l[j]? = some e):∃ p,av 8 (Z x) (I .i64 n)=some p/\aG 8 p s.get=some (AE e):=by
 obtain ⟨c,p,h1,_,h3⟩:=Rd.at h hn (List.getElem?_eq_some_iff.1 he).1
 rw [jy FO he] at h3
 exact ⟨_,h1,h3⟩
theorem FE.lit {s0:St} {e:bA} (h:FE s0 s x l) (hl:l.length<=1000000) :
 ∃ x' t s',aK s (aR 1 (aE [.int .i64 0,.int .i64 0,.int .i64 0,.int .i64 0,.int .i64 0,.int .i64 0,.int .u32 0,.str []] [(0,8,AE e)]))=some (Z (.sl s.size 0 1 (.known 1)),s')/\aH 8 72 (Z x) (Z (.sl s.size 0 1 (.known 1))) s'=some (Z x',t)/\FE s0 t x' (l++[e])/\s.size<=t.size:=by
 have L:=Fr.lit 8 h.gr.1 (n:=1) (vs:=cells cE [e]) (by simp [cE])
 obtain ⟨x',t,e1,f,hz,k⟩:=(h.kE L.gr).append (by_:=72) (by omega) L.rd.src (by simp [cE]) (by omega)
 refine ⟨x',t,_,rfl,e1,?_,Nat.le_trans L.gr.2.1 hz⟩
 unfold FE
 rw [fp,List.length_append]
 exact f
theorem Ic (d:Nat) {q0:Nat} (Sv:q0<4294967291) (h:RB s x bs) (hl:bs.length<=8000):R (d+1) 174 [I .u32 (q0:Nat),Z x] s=some (I .u32 (bN q0 bs),s):=by
 rw [yC]
 unfold f174
 have eC:=h.sW
 obtain ⟨j,τ,lp,hj,pW⟩:=aW (f:=jT (R d) 8192) (fun q v u=>∃ k n:Nat,q+k=bs.length/\v=[I .u64 n,Z x,I .i64 bs.length,I .i64 k]/\u=s/\n<4294967291/\bN n (bs.drop k)=bN q0 bs)
  (fun j u=>j = .exit 0 [I .u64 (bN q0 bs)]/\u=s) (by
  rintro q v u ⟨k,n,hk,rfl,rfl,hn,hg⟩
  by_cases eU:k<bs.length
  · left
    have hc:bs[k]? = some bs[k]:=List.getElem?_eq_getElem eU
    have hd:bs.drop k=bs[k]::bs.drop (k+1):=List.drop_eq_getElem_cons eU
    rw [hd] at hg
    obtain ⟨p,ix,ld⟩:=h.Dl (n:=(k:Int)) rfl hc
    have PC:bs[k].toNat<256:=bs[k].toNat_lt
    obtain ⟨A1,A2,A3,A4,RV,m1,m2,m3,m4⟩:∃ A1 A2 A3 A4:Int,A4=(((n*257+bs[k].toNat+1)%4294967291:Nat):Int)/\af .mul (I .u64 n) (I .u64 257)=some (I .u64 A1)/\af .add (I .u64 A1) (I .u64 bs[k].toNat)=some (I .u64 A2) ∧
     af .add (I .u64 A2) (I .u64 1)=some (I .u64 A3)/\af .rem (I .u64 A3) (I .u64 4294967291)=some (I .u64 A4):=⟨_,_,_,_,rfl,Oa.step n bs[k].toNat hn PC u⟩
    have hw:IntKind.u64.wrap (bs[k].toNat:Int)=(bs[k].toNat:Int):=wrap64 _ (by omega)
    have w1:IntKind.i64.wrap ((k:Int)+1)=((k+1:Nat):Int):=by rw [aB _ (by omega) (by omega)];omega
    have c0:((k:Int)<(bs.length:Int))=True:=eq_true (by omega)
    refine ⟨[I .u64 (((n*257+bs[k].toNat+1)%4294967291:Nat)),Z x,I .i64 bs.length,I .i64 ((k+1:Nat):Int)],u,q-1,?_,by omega,k+1,_,by omega,rfl,rfl,Nat.mod_lt _ (by decide),hg⟩
    unfold jT
    generalize ((k+1:Nat):Int)=K1 at w1 ⊢
    rw [← RV]
    generalize (bs[k].toNat:Int)=C at m2 ld hw
    generalize (k:Int)=K at w1 ix c0 ⊢
    simp only [pj,fm,List.getD_cons_zero,List.getD_cons_succ,wY,iV,decide_true,c0,ix,ld,m1,m2,m3,m4,aV,hw,dm,w1]
  · right
    have hk':k=bs.length:=by omega
    have c0:¬ ((k:Int)<(bs.length:Int)):=by omega
    have uW:n=bN q0 bs:=by
     rw [List.drop_eq_nil_of_le (by omega)] at hg
     exact hg
    refine ⟨.exit 0 [I .u64 (bN q0 bs)],u,?_,(fun v hv=>by cases hv),rfl,rfl⟩
    unfold jT
    rw [uW]
    simp [c0]) 8192 bs.length [I .u64 (q0:Nat),Z x,I .i64 bs.length,I .i64 0] s ⟨0,q0,rfl,rfl,rfl,Sv,rfl⟩ (by omega)
 subst hj;subst pW
 have hlt:=j7 bs q0 Sv
 have Pp:IntKind.u32.wrap (bN q0 bs:Int)=(bN q0 bs:Int):=by rw [wrap32,Nat.mod_eq_of_lt (by omega)]
 have e1:aF .u64 (I .u32 (q0:Nat))=some (I .u64 (q0:Nat)):=by rw [aV,wrap64 _ (by omega)]
 have e2:af .rem (I .u64 (q0:Nat)) (I .u64 4294967291)=some (I .u64 (q0:Nat)):=by
  rw [rj _ _ _ (by decide),Int.tmod_eq_emod_of_nonneg (by omega),Int.emod_eq_of_lt (by omega) (by omega)]
 simp [e1,e2,eC,lp,Pp]
theorem MD (d:Nat) (wf:s.wf) (q:Nat):∃ y t,R (d+1) 173 [I .u32 q] s=some (Z y,t)/\FB s t y (four q):=by
 rw [GC]
 unfold f173
 have nw:=P9 s (q%256) (q / 2 ^ 8%256) (q / 2 ^ 16%256) (q / 2 ^ 24%256)
 have hU:U (four q)=[.int .u8 (q%256:Nat),.int .u8 (q / 2 ^ 8%256:Nat),.int .u8 (q / 2 ^ 16%256:Nat),.int .u8 (q / 2 ^ 24%256:Nat)]:=by
  simp only [U,four,List.map_cons,List.map_nil,dU]
 rw [← hU] at nw
 have c0:=fH q
 have c1:=fH (q / 2 ^ 8)
 have c2:=fH (q / 2 ^ 16)
 have c3:=fH (q / 2 ^ 24)
 have r1:af .shr (I .u32 q) (I .u64 8)=some (I .u32 ((q / 2 ^ 8:Nat))):=eS .u32 q 8 (by decide)
 have r2:af .shr (I .u32 q) (I .u64 16)=some (I .u32 ((q / 2 ^ 16:Nat))):=eS .u32 q 16 (by decide)
 have r3:af .shr (I .u32 q) (I .u64 24)=some (I .u32 ((q / 2 ^ 24:Nat))):=eS .u32 q 24 (by decide)
 refine ⟨_,_,?_,Fr.lit 1 wf (n:=4) (vs:=U (four q)) rfl⟩
 generalize s.push (.cells true (U (four q)))=t at nw ⊢
 generalize ((q / 2 ^ 8%256:Nat):Int)=Q1 at nw c1
 generalize ((q / 2 ^ 16%256:Nat):Int)=Q2 at nw c2
 generalize ((q / 2 ^ 24%256:Nat):Int)=Q3 at nw c3
 generalize ((q%256:Nat):Int)=Q0 at nw c0
 generalize ((q / 2 ^ 8:Nat):Int)=P1 at r1 c1
 generalize ((q / 2 ^ 16:Nat):Int)=P2 at r2 c2
 generalize ((q / 2 ^ 24:Nat):Int)=P3 at r3 c3
 generalize (q:Int)=Q at *
 simp [c0,c1,c2,c3,r1,r2,r3,nw]
def bO:List Bs->Nat
 | []=>0
 | b::r=>b.length+bO r
theorem pZ:∀ l:List Bs,l.flatten.length=bO l
 | []=>rfl
 | b::r=>by simp [bO,pZ r]
theorem lj:∀ (l:List Bs) (b:Bs),bO (l++[b])=bO l+b.length
 | [],b=>by simp [bO]
 | a::r,b=>by simp [bO,lj r b];omega
theorem p8 (l:List Bs) (k:Nat):bO (l.take k)<=bO l:=by
 induction l generalizing k with
 | nil=>simp [bO]
 | cons a r ih =>
   cases k with
   | zero=>simp [bO]
   | succ k=>have:=ih k;simp [bO];omega
theorem Aw (d:Nat) (wf:s.wf) {ys:List S} {bss:List Bs} (hx:Rd 1 s x ys.length ys) (eH:∀ c,own x=some c->c<s.size) (hlen:ys.length=bss.length) (YV:∀ (j:Nat) y b,ys[j]? = some y->bss[j]? = some b->RB s y b/\∀ c,own y=some c->c<s.size)
 (h0:0<bO bss) (hT:bO bss<=100000) (hl:ys.length<=100):∃ z t,R (d+2) 172 [Z x] s=some (Z z,t)/\FB s t z bss.flatten:=by
 rw [GA]
 unfold f172
 have eC:=hx.lens
 obtain ⟨j,τ,lp,hj,pW⟩:=aW (f:=qT (R (d+1)) 8192) (fun q v u=>∃ k:Nat,q+k=ys.length/\v=[Z x,I .i64 (bO (bss.take k):Nat),Z x,I .i64 ys.length,I .i64 k]/\u=s)
  (fun j u=>j = .exit 0 [Z x,I .i64 (bO bss:Nat)]/\u=s) (by
  rintro q v u ⟨k,hk,rfl,rfl⟩
  by_cases eU:k<ys.length
  · left
    have hc:ys[k]? = some ys[k]:=List.getElem?_eq_getElem eU
    have hb:bss[k]? = some (bss[k]'(by omega)):=List.getElem?_eq_getElem (by omega)
    obtain ⟨p,ix,ld⟩:=Rd.xL hx (i:=(k:Int)) rfl hc
    obtain ⟨ry,_⟩:=YV k _ _ hc hb
    have JF:=ry.sW
    have kZ:bss.take (k+1)=bss.take k++[bss[k]'(by omega)]:=by rw [List.take_add_one,hb];rfl
    have h1:=p8 bss (k+1)
    have hs:bO (bss.take (k+1))=bO (bss.take k)+(bss[k]'(by omega)).length:=by rw [kZ,lj]
    have c0:(k:Int)<(ys.length:Int):=by omega
    have w1:IntKind.i64.wrap ((k:Int)+1)=((k+1:Nat):Int):=by rw [aB _ (by omega) (by omega)];omega
    have wa:IntKind.i64.wrap ((bO (bss.take k):Nat)+((bss[k]'(by omega)).length:Int))=((bO (bss.take (k+1)):Nat):Int):=by rw [aB _ (by omega) (by omega)];omega
    have c1:¬ ((bO (bss.take (k+1)):Nat):Int)<0:=by omega
    refine ⟨[Z x,I .i64 (bO (bss.take (k+1)):Nat),Z x,I .i64 ys.length,I .i64 ((k+1:Nat):Int)],u,q-1,?_,by omega,k+1,by omega,rfl,rfl⟩
    unfold qT
    generalize ((k+1:Nat):Int)=K1 at w1 ⊢
    generalize ((bO (bss.take (k+1)):Nat):Int)=S1 at wa c1 ⊢
    generalize ((bO (bss.take k):Nat):Int)=S0 at wa ⊢
    generalize ((bss[k]'(by omega)).length:Int)=B1 at *
    generalize (k:Int)=K at *
    generalize (ys.length:Int)=L at *
    simp [c0,ix,ld,JF,wa,c1,w1]
  · right
    have hk':k=ys.length:=by omega
    subst hk'
    rw [hlen,List.take_length]
    refine ⟨.exit 0 [Z x,I .i64 (bO bss:Nat)],u,?_,(fun v hv=>by cases hv),rfl,rfl⟩
    unfold qT
    simp) 8192 ys.length [Z x,I .i64 0,Z x,I .i64 ys.length,I .i64 0] s ⟨0,rfl,by simp [bO],rfl⟩ (by omega)
 subst pW;subst hj
 obtain ⟨TN,hTd⟩:∃ TN,TN=bO bss:=⟨_,rfl⟩
 rw [← hTd] at lp h0 hT
 obtain ⟨s1,hs1⟩:∃ s1,s1=τ.push (.cells true (dc TN [.int .u8 0])):=⟨_,rfl⟩
 have g1:Gr τ s1:=by rw [hs1];exact Gr.push wf _
 have hg:R (d+1) 216 [Z .az,I .i64 (TN:Nat)] τ=some (Z (.sl τ.size 0 0 (.grown 1)),s1):=by
  rw [GR]
  unfold f216
  have c0:¬ ((TN:Nat):Int)<0:=by omega
  have c1:(0:Int)<((TN:Nat):Int):=by omega
  have w0:IntKind.i64.wrap 0=0:=rfl
  have wT:IntKind.i64.wrap ((TN:Nat):Int)=((TN:Nat):Int):=aB _ (by omega) (by omega)
  have cap:x8 (Z .az)=some (I .i64 0):=rfl
  have pc0:ax 1 (Z .az) none (some (I .i64 0)) none=some (Z .az):=rfl
  have gr:kQ 1 1 [.int .u8 0] (Z .az) (I .i64 ((TN:Nat):Int)) τ=some (Z (.sl τ.size 0 TN (.grown 1)),s1):=by
   simp only [kQ,Int.toNat_natCast,hs1]
   rw [if_pos ⟨c1,by omega,by decide⟩]
  have pc1:ax 1 (Z (.sl τ.size 0 TN (.grown 1))) none (some (I .i64 0)) none=some (Z (.sl τ.size 0 0 (.grown 1))):=by
   unfold ax
   dsimp only
   rw [if_pos rfl,show (I .i64 0:T)=I .i64 ((0:Nat):Int) from rfl,dS (Nat.zero_le _)]
   dsimp only
   rw [if_pos h0]
  generalize ((TN:Nat):Int)=TT at *
  simp [c0,cap,w0,wT,c1,pc0,gr,pc1]
 have f1:FB τ s1 (.sl τ.size 0 0 (.grown 1)) []:=by
  refine ⟨g1,⟨by simp,.inr (.inr ⟨τ.size,dc TN [.int .u8 0],_,rfl,.inl rfl,by rw [hs1];exact St.aq _ _,by simp,by simp [U]⟩)⟩,fun c hc=>by cases hc;exact ⟨Nat.le_refl _,by rw [hs1];simp⟩⟩
 obtain ⟨j,σ,Qb,z,rfl,fz⟩:=aW (f:=qU (R (d+1)) 8192) (fun q v u=>∃ (k:Nat) (z:S),q+k=ys.length/\v=[Z z,Z x,I .i64 ys.length,I .i64 k]/\FB τ u z (bss.take k).flatten)
  (fun j u=>∃ z,j = .exit 2 [Z z]/\FB τ u z bss.flatten) (by
  rintro q v u ⟨k,z,hk,rfl,hf⟩
  by_cases eU:k<ys.length
  · left
    have hc:ys[k]? = some ys[k]:=List.getElem?_eq_getElem eU
    have hb:bss[k]? = some (bss[k]'(by omega)):=List.getElem?_eq_getElem (by omega)
    obtain ⟨p,ix,ld⟩:=Rd.xL (hx.gr eH hf.gr) (i:=(k:Int)) rfl hc
    obtain ⟨ry,oy⟩:=YV k _ _ hc hb
    have kZ:bss.take (k+1)=bss.take k++[bss[k]'(by omega)]:=by rw [List.take_add_one,hb];rfl
    have h1:=p8 bss (k+1)
    have hs:bO (bss.take (k+1))=bO (bss.take k)+(bss[k]'(by omega)).length:=by rw [kZ,lj]
    have c0:(k:Int)<(ys.length:Int):=by omega
    have w1:IntKind.i64.wrap ((k:Int)+1)=((k+1:Nat):Int):=by rw [aB _ (by omega) (by omega)];omega
    obtain ⟨z',u',ap,L7,_⟩:=FB.app hf (Rd.gr ry oy hf.gr) (by rw [pZ];omega)
    refine ⟨[Z z',Z x,I .i64 ys.length,I .i64 ((k+1:Nat):Int)],u',q-1,?_,by omega,k+1,z',by omega,rfl,by rw [kZ,List.flatten_append];simpa using L7⟩
    unfold qU
    generalize ((k+1:Nat):Int)=K1 at w1 ⊢
    generalize (k:Int)=K at *
    generalize (ys.length:Int)=L at *
    simp [c0,ix,ld,ap,w1]
  · right
    have hk':k=ys.length:=by omega
    subst hk'
    rw [hlen,List.take_length] at hf
    refine ⟨.exit 2 [Z z],u,?_,(fun v hv=>by cases hv),z,rfl,hf⟩
    unfold qU
    simp) 8192 ys.length [Z (.sl τ.size 0 0 (.grown 1)),Z x,I .i64 ys.length,I .i64 0] s1 ⟨0,_,by omega,rfl,by simpa using f1⟩ (by omega)
 refine ⟨z,σ,?_,fz⟩
 simp [eC,lp,hg,Qb]
theorem zR (d:Nat) (wf:s.wf) (h:RB s x bs) (eH:∀ c,own x=some c->c<s.size) (hl:bs.length<=8000):∃ z t,R (d+3) 131 [Z x] s=some (Z z,t)/\FB s t z (aX bs):=by
 rw [Gk]
 unfold f131
 have eC:=h.sW
 have w0:IntKind.u64.wrap (bs.length:Int)=(bs.length:Int):=wrap64 _ (by omega)
 obtain ⟨y1,s1,e1,f1⟩:=fG (d+1) wf bs.length (by omega)
 have hvl:=bG bs.length
 have e2:=C3 d f1.rd (by omega)
 have hlt:=j7 (aP bs.length) 1 (by decide)
 have rx1:RB s1 x bs:=h.gr eH f1.gr
 have e3:=Ic (d+1) hlt rx1 hl
 obtain ⟨y4,s4,e4,f4⟩:=MD (d+1) f1.gr.wf (bN (bN 1 (aP bs.length)) bs)
 have g4:=f1.gr.trans f4.gr
 obtain ⟨s5,hs5⟩:∃ s5,s5=s4.push (.cells true [y1,y4,x]):=⟨_,rfl⟩
 have nw:aK s4 (aR 3 (aE [.az,.az,.az] [(0,1,Z y1),(1,1,Z y4),(2,1,Z x)]))=some (Z (.sl s4.size 0 3 (.known 3)),s5):=by rw [hs5];rfl
 have L:=Fr.lit 1 g4.wf (n:=3) (vs:=[y1,y4,x]) rfl
 rw [← hs5] at L
 have g5:=g4.trans L.gr
 have r1:RB s5 y1 (aP bs.length):=(f1.rd.gr (fun c hc=>(f1.new c hc).2) f4.gr).gr (fun c hc=>Nat.lt_of_lt_of_le (f1.new c hc).2 f4.gr.2.1) L.gr
 have r4:RB s5 y4 (four (bN (bN 1 (aP bs.length)) bs)):=f4.rd.gr (fun c hc=>(f4.new c hc).2) L.gr
 have rx:RB s5 x bs:=h.gr eH g5
 have hpos:0<(aP bs.length).length:=by unfold aP mA;split<;>simp
 obtain ⟨z,t,e6,f6⟩:=Aw d L.gr.wf (ys:=[y1,y4,x]) (bss:=[aP bs.length,four (bN (bN 1 (aP bs.length)) bs),bs]) L.rd (fun c hc=>(L.new c hc).2) rfl (fun j y b hy hb=>by
  have z5:s4.size<=s5.size:=L.gr.2.1
  match j with
  | 0=>simp at hy hb;subst hy;subst hb;exact ⟨r1,fun c hc=>by have:=(f1.new c hc).2;have:=f4.gr.2.1;omega⟩
  | 1=>simp at hy hb;subst hy;subst hb;exact ⟨r4,fun c hc=>by have:=(f4.new c hc).2;omega⟩
  | 2=>simp at hy hb;subst hy;subst hb;exact ⟨rx,fun c hc=>by have:=eH c hc;have:=g5.2.1;omega⟩
  | j+3=>simp at hy) (by simp [bO];omega) (by simp [bO,four];omega) (by simp)
 have hw:[aP bs.length,four (bN (bN 1 (aP bs.length)) bs),bs].flatten=aX bs:=by simp [aX,qz]
 rw [hw] at f6
 refine ⟨z,t,?_,f6.from g5⟩
 simp only [Nat.add_assoc,Nat.reduceAdd] at e1 e3 e4
 generalize (bs.length:Int)=BL at *
 simp [eC,w0,e1,e2,e3,e4,nw,e6]
end
section
variable {s t:St} {x y:S} {bs cs:Bs} {i:Nat} {l m:List bA}
theorem vT (b:Bs):(aX b).length<=b.length+15:=by
 have:=bG b.length
 simp [aX,four]
 omega
theorem DL {bs:Bs} {at_:Nat}:∀ (f k n:Nat) {r:Nat×Nat},nJ bs at_ f k n=some r->r.2<=at_+k+f:=by
 intro f
 induction f with
 | zero=>intro k n r h;cases h
 | succ f ih =>
   intro k n r h
   unfold nJ at h
   split at h
   · cases h
   · split at h
     · cases h
     · split at h
       · have:=ih _ _ h
         omega
       · split at h
         · cases h
         · cases h
           show at_+k+1<=_
           omega
theorem G5 {bs:Bs} {at_ n to:Nat} (h:jF bs at_=some (n,to)):to<=at_+10:=by
 unfold jF at h
 split at h
 · have:=DL _ _ _ h
   simpa using this
 · cases h
abbrev XB (y:S) (at_:Nat) (o:Option (Bs×Nat)):T:=match o with
 | some (p,e) => .eD [.s y,.s (.int .i64 (e:Nat)),.s (.bool true)]
 | none => .eD [.s .az,.s (.int .i64 (at_:Nat)),.s (.bool false)]
theorem Iv (d:Nat) (wf:s.wf) (h:RB s x bs) (eH:∀ c,own x=some c->c<s.size) (hl:bs.length<=100000) {at_:Nat} (ha:at_<=bs.length) (va:∀ n to,jF bs at_=some (n,to)->bs.length-to-4<n\/n<=7900) :
 ∃ y t,R (d+4) 93 [Z x,I .i64 (at_:Nat)] s=some (XB y at_ (eA bs at_),t)/\Gr s t/\∀ p e,eA bs at_=some (p,e)->RB t y p/\(∀ c,own y=some c->c<t.size)/\e<=bs.length/\p.length<=7900:=by
 rw [LS]
 unfold f93
 have eC:=h.sW
 have e1:=oz (d+2) h hl (at_:=at_) (by omega)
 simp only [Nat.add_assoc,Nat.reduceAdd] at e1
 cases hv:jF bs at_ with
 | none =>
   rw [hv] at e1
   simp only [tP,if_pos ha] at e1
   have ho:eA bs at_=none:=by unfold eA;rw [hv]
   rw [ho]
   refine ⟨.az,s,?_,Gr.refl wf,fun p e hh=>by cases hh⟩
   simp [e1,ah,kF,aQ,bI]
 | some p =>
   obtain ⟨n,to⟩:=p
   rw [hv] at e1
   simp only [tP] at e1
   obtain ⟨Mn,SJ⟩:=rH hv
   have Wk:=va n to hv
   have w1:IntKind.i64.wrap ((bs.length:Int)-((to:Nat):Int))=(bs.length:Int)-((to:Nat):Int):=aB _ (by omega) (by omega)
   by_cases c1:bs.length<to+4
   · have ho:eA bs at_=none:=by unfold eA;rw [hv];simp only;rw [if_pos (.inl c1)]
     rw [ho]
     have k1:(bs.length:Int)-((to:Nat):Int)<4:=by omega
     refine ⟨.az,s,?_,Gr.refl wf,fun p e hh=>by cases hh⟩
     simp [e1,ah,eC,w1,k1,kF,aQ,bI]
   · have k1:¬ (bs.length:Int)-((to:Nat):Int)<4:=by omega
     have w2:IntKind.i64.wrap ((bs.length:Int)-((to:Nat):Int)-4)=(bs.length:Int)-((to:Nat):Int)-4:=aB _ (by omega) (by omega)
     have w3:IntKind.u64.wrap ((bs.length:Int)-((to:Nat):Int)-4)=(bs.length:Int)-((to:Nat):Int)-4:=cf _ (by omega) (by omega)
     by_cases c2:bs.length-to-4<n
     · have ho:eA bs at_=none:=by unfold eA;rw [hv];simp only;rw [if_pos (.inr c2)]
       rw [ho]
       have k2:(bs.length:Int)-((to:Nat):Int)-4<((n:Nat):Int):=by omega
       refine ⟨.az,s,?_,Gr.refl wf,fun p e hh=>by cases hh⟩
       simp [e1,ah,eC,w1,k1,w2,w3,k2,aQ,bI]
     · have k2:¬ (bs.length:Int)-((to:Nat):Int)-4<((n:Nat):Int):=by omega
       have w4:IntKind.i64.wrap (((to:Nat):Int)+4)=((to+4:Nat):Int):=by rw [aB _ (by omega) (by omega)];omega
       have w5:IntKind.i64.wrap ((n:Nat):Int)=((n:Nat):Int):=aB _ (by omega) (by omega)
       have w6:IntKind.i64.wrap (((to+4:Nat):Int)+((n:Nat):Int))=((to+4+n:Nat):Int):=by rw [aB _ (by omega) (by omega)];omega
       have piece:∀ lo hi:Nat,lo<=hi->hi<=bs.length->∃ y,ax 1 (Z x) (some (I .i64 (lo:Nat))) (some (I .i64 (hi:Nat))) none=some (Z y)/\RB s y ((bs.drop lo).take (hi-lo))/\(own y=none\/own y=own x):=fun lo hi h1 h2=>by
        obtain ⟨y,a,b,c⟩:=Rd.piece h (lo:=lo) (hi:=hi) h1 h2
        refine ⟨y,a,?_,c⟩
        rw [Nat.mul_one,Nat.mul_one,vW,jJ] at b
        have:((bs.drop lo).take (hi-lo)).length=hi-lo:=by rw [List.length_take,List.length_drop];omega
        unfold RB
        rw [this]
        exact b
       obtain ⟨y1,p1,r1,o1⟩:=piece (to+4) (to+4+n) (by omega) (by omega)
       obtain ⟨y2,p2,r2,o2⟩:=piece at_ (to+4+n) (by omega) (by omega)
       rw [show to+4+n-(to+4)=n by omega] at r1
       have hn7:n<=7900:=Wk.resolve_left c2
       have hpl:((bs.drop (to+4)).take n).length<=7900:=by rw [List.length_take];omega
       have Ra:∀ c,own y1=some c->c<s.size:=fun c hc=>by
        rcases o1 with e | e
        · rw [e] at hc;cases hc
        · rw [e] at hc;exact eH c hc
       have Rb:∀ c,own y2=some c->c<s.size:=fun c hc=>by
        rcases o2 with e | e
        · rw [e] at hc;cases hc
        · rw [e] at hc;exact eH c hc
       obtain ⟨z,t,e3,f3⟩:=zR d wf r1 Ra (by omega)
       have r2':RB t y2 ((bs.drop at_).take (to+4+n-at_)):=r2.gr Rb f3.gr
       have eq:R (d+3) 130 [Z y2,Z z] t=some (B (decide ((bs.drop at_).take (to+4+n-at_)=aX ((bs.drop (to+4)).take n))),t):=by
        by_cases NJ:((bs.drop at_).take (to+4+n-at_)).length<=8000
        · exact DC (d+2) r2' f3.rd NJ
        · exfalso
          rw [List.length_take,List.length_drop] at NJ
          have:=G5 hv
          omega
       have hop:eA bs at_=if (bs.drop at_).take (to+4+n-at_)=aX ((bs.drop (to+4)).take n) then some ((bs.drop (to+4)).take n,to+4+n) else none:=by
        unfold eA
        rw [hv]
        simp only
        rw [if_neg (fun hh=>hh.elim c1 c2)]
       rw [hop]
       by_cases he:(bs.drop at_).take (to+4+n-at_)=aX ((bs.drop (to+4)).take n)
       · rw [if_pos he]
         rw [decide_eq_true he] at eq
         refine ⟨y1,t,?_,f3.gr,fun p e hh=>by
          cases hh
          exact ⟨r1.gr Ra f3.gr,fun c hc=>Nat.lt_of_lt_of_le (Ra c hc) f3.gr.2.1,by omega,hpl⟩⟩
         show _=some (T.eD [.s y1,.s (.int .i64 ((to+4+n:Nat):Int)),.s (.bool true)],t)
         generalize ((to+4+n:Nat):Int)=E1 at *
         generalize ((to+4:Nat):Int)=E0 at *
         generalize R (d+3)=r at *
         simp [e1,ah,eC,w1,k1,w2,w3,k2,w4,w5,w6,p1,p2,e3,eq,aQ,bI]
       · rw [if_neg he]
         rw [decide_eq_false he] at eq
         refine ⟨y1,t,?_,f3.gr,fun p e hh=>by cases hh⟩
         generalize ((to+4+n:Nat):Int)=E1 at *
         generalize ((to+4:Nat):Int)=E0 at *
         generalize R (d+3)=r at *
         simp [e1,ah,eC,w1,k1,w2,w3,k2,w4,w5,w6,p1,p2,e3,eq,aQ,bI]
abbrev pJ (y:S) (o:Option Bs):T:=match o with
 | some b => .eD [.s y,.s (.int .i64 0)]
 | none => .eD [.s .az,.s (.int .i64 1)]
theorem oV (d:Nat) (wf:s.wf) (e:bA) (hw:rK e):∃ y t,R (d+10) 95 [AE e] s=some (pJ y (eB e),t)/\Gr s t/\∀ b,eB e=some b->FB s t y b:=by
 rw [LV]
 unfold f95
 obtain ⟨s1,hs1⟩:∃ s1,s1=s.push (.cells true (cE e)):=⟨_,rfl⟩
 have cX:aK s (ct (AE e))=some (Z (.ptr s.size 0),s1):=by rw [hs1];rfl
 have g1:Gr s s1:=by rw [hs1];exact Gr.push wf _
 have h1:s1.get s.size=some (.cells true (cE e)):=by rw [hs1];exact St.aq _ _
 have l8:=dQ (g:=s1.get) h1
 cases hm:bT e with
 | false =>
   obtain ⟨s2,e2,g2⟩:=CU d g1.wf hm
   have hf:eB e=none:=by simp [eB,hm]
   rw [hf]
   refine ⟨.az,s2,?_,g1.trans g2,fun b hb=>by cases hb⟩
   simp [cX,l8,e2,ah,aQ,bI]
 | true =>
   obtain ⟨y,s2,e2,f2⟩:=CV d g1.wf hm hw
   obtain ⟨z,s3,e3,f3⟩:=zR (d+6) f2.gr.wf f2.rd (fun c hc=>(f2.new c hc).2) (by have:=tA (pF hm);omega)
   have hf:eB e=some (aX (bp e)):=by simp [eB,hm]
   rw [hf]
   refine ⟨z,s3,?_,(g1.trans f2.gr).trans f3.gr,fun b hb=>by cases hb;exact f3.from (g1.trans f2.gr)⟩
   simp only [Nat.add_assoc,Nat.reduceAdd] at e3
   simp [cX,l8,e2,ah,e3,aQ,bI]
theorem iE {e:bA} {b:Bs} (h:eB e=some b):b.length<=415:=by
 unfold eB at h
 split at h
 · rename_i hm
   cases h
   have:=tA (pF hm)
   have:=vT (bp e)
   omega
 · cases h
theorem gX:∀ (l:List bA) (e:bA),aD (l++[e])=aD l++aX (bp e)
 | [],e=>by simp [aD]
 | a::r,e=>by simp [aD,gX r e]
theorem FC {l:List bA} (k:Nat) (h:l.all bT=true):(l.take k).all bT=true:=by
 rw [List.all_eq_true] at h ⊢
 exact fun x hx=>h x (List.mem_of_mem_take hx)
theorem kS:∀ l:List bA,l.all bT=true->(aD l).length<=415*l.length
 | [],_=>by simp [aD]
 | e::r,h=>by
   simp only [List.all_cons,Bool.and_eq_true] at h
   have h1:=kS r h.2
   have h2:(aX (bp e)).length<=415:=iE (e:=e) (by simp [eB,h.1])
   simp [aD]
   omega
end
section
variable {s t:St} {x y:S} {bs cs:Bs} {i:Nat} {l m:List bA}
theorem Iu {a e:Nat} {p:Bs} (h:eA bs a=some (p,e)):e<=bs.length:=by
 unfold eA at h
 split at h
 · cases h
 · split at h
   · cases h
   · split at h
     · cases h;omega
     · cases h
abbrev Tt (y:S) (p:List bA×Nat):T := .eD [.s y,.s (.int .i64 (p.2:Nat))]
theorem IQ (d:Nat) (wf:s.wf) (h:RB s x bs) (eH:∀ c,own x=some c->c<s.size) (hl:bs.length<=100000) (V:Nat->Prop) (v0:V 0) (v1:∀ a p e,V a->eA bs a=some (p,e)->V e)
 (v2:∀ a n to,V a->jF bs a=some (n,to)->bs.length-to-4<n\/n<=7900) :
 ∃ y t,R (d+11) 43 [Z x] s=some (Tt y (kA bs),t)/\FE s t y (kA bs).1:=by
 rw [Lr]
 unfold f43
 obtain ⟨j,τ,lp,z,hj,f⟩:=aW (f:=oR (R (d+10)) 8192) (fun q v u=>∃ (at_:Nat) (z:S) (acc:List bA),q+acc.length=2000/\v=[Z x,Z z,I .i64 (at_:Nat)]/\FE s u z acc/\V at_/\at_<=bs.length/\mH bs q at_ acc=kA bs)
  (fun j u=>∃ z,j = .exit 0 [Z z,I .i64 ((kA bs).2:Nat)]/\FE s u z (kA bs).1) (by
  rintro q v u ⟨at_,z,acc,hq,rfl,f,hv,ha,hr⟩
  have eC:=f.rd.lens
  by_cases hc:acc.length<2000
  · obtain ⟨q',rfl⟩:∃ q',q=q'+1:=⟨q-1,by omega⟩
    obtain ⟨y,u1,e1,g1,o1⟩:=Iv (d+6) f.gr.wf (h.gr eH f.gr) (fun c hc=>Nat.lt_of_lt_of_le (eH c hc) f.gr.2.1) hl ha (fun n to=>v2 at_ n to hv)
    simp only [Nat.add_assoc,Nat.reduceAdd] at e1
    have c0:((acc.length:Nat):Int)<2000:=by omega
    unfold mH at hr
    cases ho:eA bs at_ with
    | none =>
      rw [ho] at e1 hr
      right
      refine ⟨.exit 0 [Z z,I .i64 (at_:Nat)],u1,?_,(fun v hv=>by cases hv),z,?_,?_⟩
      · unfold oR
        generalize ((acc.length:Nat):Int)=L at *
        generalize ((at_:Nat):Int)=A at *
        generalize R (d+10)=r at *
        simp [eC,c0,e1,ah,kF]
      · rw [← hr]
      · rw [← hr];exact f.kE g1
    | some pe =>
      obtain ⟨p,e⟩:=pe
      rw [ho] at e1 hr
      simp only at hr
      obtain ⟨ry,oy,he,hp⟩:=o1 p e ho
      obtain ⟨u2,e2,g2⟩:=L0 d g1.wf ry oy (by omega)
      obtain ⟨u3,Hr⟩:∃ u3,u3=u2.push (.cells true (cE bC)):=⟨_,rfl⟩
      have b0:u3.get u2.size=some (.cells true (cE bC)):=by rw [Hr];exact St.aq _ _
      have g3:Gr u2 u3:=by rw [Hr];exact Gr.push g2.wf _
      have z3:u3.size=u2.size+1:=by rw [Hr];simp
      have nw:aK u2 (ba [.int .i64 0,.int .i64 0,.int .i64 0,.int .i64 0,.int .i64 0,.int .i64 0,.int .u32 0,.str []])=some (Z (.ptr u2.size 0),u3):=by rw [Hr];rfl
      have RS:∀ b:dO,Gr u2 (u3.set u2.size b):=fun b =>
       ⟨St.wf_set g3.wf (by omega) _,by simpa using g3.2.1,fun c hc=>by rw [St.aj _ _ (by omega)];exact g3.2.2 c hc⟩
      cases hg:AR p with
      | none =>
        rw [hg] at e2 hr
        have st:=j6 (e:=bC) b0 rfl
        right
        refine ⟨.exit 0 [Z z,I .i64 (at_:Nat)],u3.set u2.size (.cells true (cE bC)),?_,(fun v hv=>by cases hv),z,?_,?_⟩
        rotate_left
        · rw [← hr]
        · rw [← hr];exact f.kE ((g1.trans g2).trans (RS _))
        · unfold oR
          generalize ((acc.length:Nat):Int)=L at *
          generalize ((at_:Nat):Int)=A at *
          generalize ((e:Nat):Int)=E at *
          generalize R (d+10)=r at *
          simp [eC,c0,e1,ah,e2,nw,st,kF]
      | some en =>
        rw [hg] at e2 hr
        obtain ⟨w,hw⟩:∃ w,w=u3.set u2.size (.cells true (cE en)):=⟨_,rfl⟩
        have st:aw 8 (Z (.ptr u2.size 0)) (AE en) u3=some (tt,w):=by rw [hw];exact j6 b0 rfl
        have ld:aG 8 (Z (.ptr u2.size 0)) w.get=some (AE en):=by rw [hw];exact dQ (St.ar _ _ _)
        have gw:Gr u2 w:=by rw [hw];exact RS _
        obtain ⟨z2,u5,u4,zZ,ap,f5,_⟩:=FE.lit (e:=en) (f.kE ((g1.trans g2).trans gw)) (by omega)
        left
        refine ⟨[Z x,Z z2,I .i64 (e:Nat)],u5,q',?_,rfl,e,z2,acc++[en],by simp;omega,rfl,f5,v1 _ _ _ hv ho,he,hr⟩
        unfold oR
        generalize ((acc.length:Nat):Int)=L at *
        generalize ((at_:Nat):Int)=A at *
        generalize R (d+10)=r at *
        simp [eC,c0,e1,ah,e2,nw,st,ld,zZ,ap]
  · have Sv:q=0:=by omega
    subst Sv
    have c0:¬ ((acc.length:Nat):Int)<2000:=by omega
    right
    refine ⟨.exit 0 [Z z,I .i64 (at_:Nat)],u,?_,(fun v hv=>by cases hv),z,?_,?_⟩
    · unfold oR
      generalize ((acc.length:Nat):Int)=L at *
      simp [eC,c0]
    · rw [← hr];rfl
    · rw [← hr];exact f) 8192 2000 [Z x,Z .az,I .i64 0] s ⟨0,.az,[],rfl,rfl,by exact Fr.nil 8 wf,v0,by omega,rfl⟩ (by omega)
 subst hj
 exact ⟨z,τ,by simp [lp,aQ,bI],f⟩
theorem Es (d:Nat) (wf:s.wf) (h:RB s x bs) (eH:∀ c,own x=some c->c<s.size) (hl:bs.length<=7900):∃ y t,R (d+11) 43 [Z x] s=some (Tt y (kA bs),t)/\FE s t y (kA bs).1 :=
 IQ d wf h eH (by omega) (fun _=>True) trivial (fun _ _ _ _ _=>trivial) (fun a n to _ hv=>by
  by_cases c:bs.length-to-4<n
  · exact .inl c
  · exact .inr (by omega))
end
theorem tg (acc c k:Nat) (h:acc<2 ^ k):acc ||| c*2 ^ k=acc+c*2 ^ k:=by
 have:=Nat.two_pow_add_eq_or_of_lt h c
 rw [Nat.mul_comm] at this
 rw [Nat.or_comm,← this,Nat.add_comm]
theorem Th (k:Nat):2 ^ (7*(k+1))=128*2 ^ (7*k):=by
 rw [Nat.mul_add,Nat.pow_add];omega
theorem DM {bs post:Bs} {at_:Nat}:∀ (f k m acc:Nat),f+k=10->m*2 ^ (7*k)<2 ^ 64->(k=0\/0<m)->acc<2 ^ (7*k)->bs.drop (at_+k)=mA f m++post →
 nJ bs at_ f k acc=some (acc+m*2 ^ (7*k),at_+k+(mA f m).length):=by
 intro f
 induction f with
 | zero =>
   intro k m acc hf hm h0 ha hd
   obtain rfl:k=10:=by omega
   exfalso
   rcases h0 with h | h
   · omega
   · have:1*2 ^ 70<=m*2 ^ 70:=Nat.mul_le_mul_right _ h
     have e:2 ^ (7*10)=2 ^ 70:=rfl
     rw [e] at hm
     omega
 | succ f ih =>
   intro k m acc hf hm h0 ha hd
   have Ul:k=9->m<2:=by
    rintro rfl
    have e:2 ^ (7*9)=2 ^ 63:=rfl
    rw [e] at hm
    omega
   have cg:bs[at_+k]? = (bs.drop (at_+k))[0]? := by simp
   unfold nJ
   by_cases hc:128<=m
   · have hp:mA (f+1) m=UInt8.ofNat (m%128+128)::mA f (m / 128):=by rw [mA,if_pos hc]
     rw [hp] at hd ⊢
     rw [cg,hd]
     have hb:(UInt8.ofNat (m%128+128)).toNat=m%128+128:=by rw [dU];omega
     simp only [List.cons_append,List.getElem?_cons_zero,hb]
     rw [if_neg (by rintro ⟨h,_⟩;have:=Ul h;omega),if_pos (by omega)]
     have h128:(m%128+128)%128=m%128:=by omega
     rw [h128,tg _ _ _ ha]
     have hmul:m*2 ^ (7*k)=m%128*2 ^ (7*k)+m / 128*2 ^ (7*(k+1)):=by
      rw [Th,← Nat.mul_assoc,← Nat.add_mul]
      congr 1
      omega
     rw [ih (k+1) (m / 128) _ (by omega) (by omega) (.inr (by omega)) ?_ ?_]
     · rw [List.length_cons,hmul]
       congr 2<;>omega
     · rw [Th]
       have:m%128*2 ^ (7*k)<=127*2 ^ (7*k):=Nat.mul_le_mul_right _ (by omega)
       omega
     · rw [← Nat.add_assoc,← List.drop_drop,hd];rfl
   · have hp:mA (f+1) m=[UInt8.ofNat m]:=by rw [mA,if_neg hc]
     rw [hp] at hd ⊢
     rw [cg,hd]
     have hb:(UInt8.ofNat m).toNat=m:=by rw [dU];omega
     simp only [List.cons_append,List.getElem?_cons_zero,hb]
     rw [if_neg (by rintro ⟨h,_⟩;have:=Ul h;omega),if_neg hc,if_neg (by omega),Nat.mod_eq_of_lt (by omega),tg _ _ _ ha]
     rfl
theorem mo {bs pre post:Bs} {n at_:Nat} (hb:bs=pre++(aP n++post)) (ha:at_=pre.length) (hn:n<2 ^ 64):jF bs at_=some (n,at_+(aP n).length):=by
 subst hb ha
 unfold jF
 rw [if_pos (by simp),DM (post:=post) 10 0 n 0 rfl (by simpa using hn) (.inl rfl) (by simp) (by simp [aP])]
 simp [aP]
theorem iZ {bs pre post:Bs} {n at_ most:Nat} {bad:Bool} (hb:bs=pre++(aP n++post)) (ha:at_=pre.length) (hn:n<=most) (hm:most<2 ^ 64):mc bs most at_ bad=(n,at_+(aP n).length,bad):=by
 unfold mc
 rw [mo hb ha (by omega)]
 simp only [Nat.min_eq_left hn,Prod.mk.injEq,true_and]
 rw [decide_eq_false (by omega),Bool.or_false]
theorem DK {e:bA} (h:bT e=true) (hw:rK e):AR (bp e)=some e:=by
 obtain ⟨v0,v1,k0,k1,h1,h2,h3,h4⟩:=dY h
 have hput:cV e=some (bp e):=by unfold cV;rw [if_pos h]
 obtain ⟨w0,w1⟩:=hw
 have main:∃ c r,bp e=c::r/\bQ (bp e) c=some (e,false):=by
  refine ⟨_,_,rfl,?_⟩
  have hkb:(UInt8.ofNat e.k.toNat).toNat=e.k.toNat:=by rw [dU];omega
  have hc1:bp e=[UInt8.ofNat e.k.toNat]++(aP e.v.toNat++(dA (dZ e)++e.x)):=by simp [bp]
  have n1:=iZ (most:=1073741824) (bad:=false) hc1 rfl (by omega) (by omega)
  have hv:((e.v.toNat:Nat):Int)=e.v:=Int.toNat_of_nonneg v0
  rcases (by omega:e.k=1\/e.k=2\/e.k=3\/e.k=4) with hk | hk | hk | hk
  · obtain ⟨hx,i0,i1,t0,t1,f0,f1,o1⟩:=h1 hk
    have hk':(UInt8.ofNat e.k.toNat).toNat=1:=by rw [hkb,hk];rfl
    have hn:dZ e=[e.i.toNat,e.t.toNat,e.f.toNat,e.o.toNat,e.u.toNat]:=by simp [dZ,hk]
    have c2:bp e=([UInt8.ofNat e.k.toNat]++aP e.v.toNat)++(aP e.i.toNat++(aP e.t.toNat++aP e.f.toNat++aP e.o.toNat++aP e.u.toNat)):=by simp [bp,hn,dA,hx]
    have c3:bp e=([UInt8.ofNat e.k.toNat]++aP e.v.toNat++aP e.i.toNat)++(aP e.t.toNat++(aP e.f.toNat++aP e.o.toNat++aP e.u.toNat)):=by simp [bp,hn,dA,hx]
    have c4:bp e=([UInt8.ofNat e.k.toNat]++aP e.v.toNat++aP e.i.toNat++aP e.t.toNat)++(aP e.f.toNat++(aP e.o.toNat++aP e.u.toNat)):=by simp [bp,hn,dA,hx]
    have c5:bp e=([UInt8.ofNat e.k.toNat]++aP e.v.toNat++aP e.i.toNat++aP e.t.toNat++aP e.f.toNat)++(aP e.o.toNat++aP e.u.toNat):=by simp [bp,hn,dA,hx]
    have c6:bp e=([UInt8.ofNat e.k.toNat]++aP e.v.toNat++aP e.i.toNat++aP e.t.toNat++aP e.f.toNat++aP e.o.toNat)++(aP e.u.toNat++[]):=by simp [bp,hn,dA,hx]
    have n2:=iZ (most:=1073741824) (bad:=false) c2 rfl (by omega) (by omega)
    have n3:=iZ (most:=4) (bad:=false) c3 rfl (by omega) (by omega)
    have n4:=iZ (most:=1099511627776) (bad:=false) c4 rfl (by omega) (by omega)
    have n5:=iZ (most:=1099511627776) (bad:=false) c5 rfl (by omega) (by omega)
    have n6:=iZ (most:=4294967295) (bad:=false) c6 rfl (by omega) (by omega)
    simp only [List.length_append,List.length_cons,List.length_nil,Nat.zero_add] at n1 n2 n3 n4 n5 n6
    unfold bQ
    simp only [hk',n1,n2,n3,n4,n5,n6,if_true]
    simp only [hv,Int.toNat_of_nonneg (show 0<=e.i by omega),Int.toNat_of_nonneg t0,Int.toNat_of_nonneg f0,Int.toNat_of_nonneg (show 0<=e.o by omega),Int.toNat_of_nonneg w0]
    obtain ⟨a1,a2,a3,a4,a5,a6,a7,a8⟩:=e
    simp only at hk hx
    subst hk hx
    rfl
  · have hk':(UInt8.ofNat e.k.toNat).toNat=2:=by rw [hkb,hk];rfl
    obtain ⟨q0,q1,q2⟩:=h2 hk
    have hn:dZ e=[e.i.toNat]:=by simp [dZ,hk]
    have c2:bp e=([UInt8.ofNat e.k.toNat]++aP e.v.toNat)++(aP e.i.toNat++e.x):=by simp [bp,hn,dA]
    have n2:=iZ (most:=1073741824) (bad:=false) c2 rfl (by omega) (by omega)
    simp only [List.length_append,List.length_cons,List.length_nil,Nat.zero_add] at n1 n2
    unfold bQ
    simp only [hk',n1,n2,if_true,if_neg (show ¬ (2:Nat)=1 by decide)]
    rw [hv,Int.toNat_of_nonneg (show 0<=e.i by omega)]
    obtain ⟨a1,a2,a3,a4,a5,a6,a7,a8⟩:=e
    simp only at hk
    subst hk
    obtain rfl:a4=0:=congrArg bA.t q2
    obtain rfl:a5=0:=congrArg bA.f q2
    obtain rfl:a6=0:=congrArg bA.o q2
    obtain rfl:a7=0:=congrArg bA.u q2
    obtain rfl:a8=[]:=congrArg bA.x q2
    rfl
  · have hk':(UInt8.ofNat e.k.toNat).toNat=3:=by rw [hkb,hk];rfl
    simp only [List.length_append,List.length_cons,List.length_nil,Nat.zero_add] at n1
    unfold bQ
    simp only [hk',n1,if_neg (show ¬ (3:Nat)=1 by decide),if_neg (show ¬ (3:Nat)=2 by decide),if_neg (show ¬ (3:Nat)=4 by decide)]
    rw [hv]
    have q2:=(h3 hk).2
    obtain ⟨a1,a2,a3,a4,a5,a6,a7,a8⟩:=e
    simp only at hk
    subst hk
    simp only [bC,bA.mk.injEq] at q2
    obtain ⟨_,_,q3,q4,q5,q6,q7,q8⟩:=q2
    subst_vars
    rfl
  · have hk':(UInt8.ofNat e.k.toNat).toNat=4:=by rw [hkb,hk];rfl
    obtain ⟨x0,q2,_⟩:=h4 hk
    have hn:dZ e=[e.x.length]:=by simp [dZ,hk]
    have c2:bp e=([UInt8.ofNat e.k.toNat]++aP e.v.toNat)++(aP e.x.length++e.x):=by simp [bp,hn,dA]
    have n2:=iZ (most:=300) (bad:=false) c2 rfl (by omega) (by omega)
    have hl:(bp e).length=1+(aP e.v.toNat).length+(aP e.x.length).length+e.x.length:=by rw [c2];simp;omega
    have hd:(bp e).drop (1+(aP e.v.toNat).length+(aP e.x.length).length)=e.x:=by
     rw [c2,← List.append_assoc,List.drop_left']
     simp
     omega
    simp only [List.length_append,List.length_cons,List.length_nil,Nat.zero_add] at n1 n2
    unfold bQ
    simp only [hk',n1,n2,if_neg (show ¬ (4:Nat)=1 by decide),if_neg (show ¬ (4:Nat)=2 by decide),if_true]
    rw [if_neg (by rw [hl];simp),hd,List.take_length,hv]
    obtain ⟨a1,a2,a3,a4,a5,a6,a7,a8⟩:=e
    simp only at hk
    subst hk
    simp only [bC,bA.mk.injEq] at q2
    obtain ⟨_,_,q3,q4,q5,q6,q7,q8⟩:=q2
    subst_vars
    rfl
 obtain ⟨c,r,hb,hf⟩:=main
 unfold AR
 rw [hb]
 simp only
 rw [← hb,hf]
 simp [hput]
theorem mY {bs pre b post:Bs} {at_:Nat} (hb:bs=pre++(aX b++post)) (ha:at_=pre.length) (hn:b.length<2 ^ 64):eA bs at_=some (b,at_+(aX b).length):=by
 have hs:bs=pre++(aP b.length++(four (bN 1 (aP b.length++b))++b++post)):=by rw [hb];simp [aX]
 have h4:∀ n,(four n).length=4:=fun _=>rfl
 have hl:bs.length=at_+(aP b.length).length+4+b.length+post.length:=by rw [hs,ha];simp [h4];omega
 have hw:(aX b).length=(aP b.length).length+4+b.length:=by simp [aX,h4];omega
 have hd:bs.drop at_=aX b++post:=by rw [hb,ha,List.drop_left]
 have DQ:bs.drop (at_+(aP b.length).length+4)=b++post:=by
  rw [hs,ha,show pre++(aP b.length++(four (bN 1 (aP b.length++b))++b++post))=(pre++aP b.length++four (bN 1 (aP b.length++b)))++(b++post) by simp]
  rw [List.drop_left']
  simp [h4]
  omega
 unfold eA
 rw [mo hs ha hn]
 simp only
 rw [if_neg (by omega),hd,DQ,List.take_left,List.take_left' (by rw [hw];omega),if_pos rfl]
 congr 2
 omega
theorem Bu {bs p:Bs} {at_ e:Nat} (h:eA bs at_=some (p,e)):e=at_+(aX p).length/\e<=bs.length/\∃ post,bs.drop at_=aX p++post:=by
 have he:=Iu h
 unfold eA at h
 split at h
 · cases h
 · rename_i n to hv
   have hlt:=rH hv
   split at h
   · cases h
   · split at h
     · rename_i hc heq
       cases h
       have h1:=List.take_append_drop (to+4+n-at_) (bs.drop at_)
       have hl:((bs.drop at_).take (to+4+n-at_)).length=to+4+n-at_:=by rw [List.length_take,List.length_drop];omega
       rw [heq] at hl h1
       exact ⟨by omega,he,_,h1.symm⟩
     · cases h
theorem B9 {p q r r':Bs} (h:aX p++r=aX q++r') (hp:p.length<2 ^ 64) (hq:q.length<2 ^ 64):p=q/\r=r':=by
 have h1:=mY (bs:=aX p++r) (pre:=[]) (b:=p) (post:=r) (at_:=0) rfl rfl hp
 have h2:=mY (bs:=aX p++r) (pre:=[]) (b:=q) (post:=r') (at_:=0) (by rw [h];rfl) rfl hq
 rw [h1] at h2
 have:p=q:=by cases h2;rfl
 subst this
 exact ⟨rfl,List.append_cancel_left h⟩
theorem dV:∀ l m:List bA,aD (l++m)=aD l++aD m
 | [],m=>rfl
 | e::r,m=>by simp [aD,dV r m]
theorem y8 {e:bA} (h:bT e=true):(bp e).length<=400:=tA (pF h)
theorem od {bs post:Bs}:∀ (l:List bA) (f:Nat) (pre:Bs) (acc:List bA),l.length<=f->l.all bT=true->(∀ e∈l,rK e)->bs=pre++(aD l++post) →
 mH bs f pre.length acc=mH bs (f-l.length) (pre.length+(aD l).length) (acc++l)
 | [],f,pre,acc,_,_,_,_=>by simp [aD]
 | e::r,f+1,pre,acc,hf,hm,hw,hb=>by
   simp only [List.all_cons,Bool.and_eq_true] at hm
   have hl:=y8 hm.1
   have ho:=mY (bs:=bs) (pre:=pre) (at_:=pre.length) (b:=bp e) (post:=aD r++post) (by rw [hb];simp [aD]) rfl (by omega)
   rw [mH,ho]
   simp only [DK hm.1 (hw e (by simp))]
   have ih:=od (bs:=bs) (post:=post) r f (pre++aX (bp e)) (acc++[e]) (by simpa using hf) hm.2 (fun x hx=>hw x (by simp [hx])) (by rw [hb];simp [aD])
   rw [List.length_append] at ih
   rw [ih]
   simp [aD]
   congr 1
   omega
theorem BH {bs:Bs} {f at_:Nat} {acc:List bA} (h:eA bs at_=none):mH bs f at_ acc=(acc,at_):=by
 cases f with
 | zero=>rfl
 | succ f=>rw [mH,h]
theorem xq {bs post:Bs} {l:List bA} (hl:l.length<=2000) (hm:l.all bT=true) (hw:∀ e∈l,rK e) (hb:bs=aD l++post) :
 kA bs=mH bs (2000-l.length) (aD l).length l:=by
 have:=od (bs:=bs) (post:=post) l 2000 [] [] hl hm hw hb
 simpa [kA] using this
theorem zO:∀ (l:List bA) (k:Nat),k<=(aD l).length->∃ j post,(aD l).take k=aD (l.take j)++post/\((∃ hj:j<l.length,∃ more,more≠[]/\post++more=aX (bp l[j]))\/(j=l.length/\post=[]))
 | [],k,h=>⟨0,[],by simp [aD],.inr ⟨rfl,rfl⟩⟩
 | e::r,k,h=>by
   by_cases hk:(aX (bp e)).length<=k
   · obtain ⟨j,post,h1,h2⟩:=zO r (k-(aX (bp e)).length) (by simp [aD] at h;omega)
     refine ⟨j+1,post,?_,?_⟩
     · simp only [aD,List.take_succ_cons]
       rw [List.take_append,List.take_of_length_le hk,h1,List.append_assoc]
     · rcases h2 with ⟨hj,m,h3,h4⟩ | ⟨h3,h4⟩
       · exact .inl ⟨by simpa using hj,m,h3,by simpa using h4⟩
       · exact .inr ⟨by simp [h3],h4⟩
   · refine ⟨0,(aX (bp e)).take k,?_,.inl ⟨by simp,(aX (bp e)).drop k,fun h0 => ?_,by simp [List.take_append_drop]⟩⟩
     · simp only [aD,List.take_zero,List.nil_append]
       rw [List.take_append_of_le_length (by omega)]
     · have:=congrArg List.length h0
       rw [List.length_drop] at this
       simp at this
       omega
theorem Jt (p:Bs):p.length<=(aX p).length:=by simp [aX];omega
theorem Jj {l:List bA} (hm:l.all bT=true) (hw:∀ e∈l,rK e) (hl:l.length<=2000) {k:Nat} (hk:k<=(aD l).length) :
 ∃ j,j<=l.length/\kA ((aD l).take k)=(l.take j,(aD (l.take j)).length)/\(aD (l.take j)).length<=k/\(∀ hj:j<l.length,k<(aD (l.take j)).length+(aX (bp l[j])).length)/\(j=l.length->k=(aD l).length):=by
 obtain ⟨j,post,h1,h2⟩:=zO l k hk
 have hlen:k=(aD (l.take j)).length+post.length:=by
  have:=congrArg List.length h1
  rw [List.length_take,List.length_append] at this
  omega
 have hjl:j<=l.length:=by rcases h2 with ⟨hj,_⟩ | ⟨hj,_⟩<;>omega
 have hr:=xq (bs:=(aD l).take k) (l:=l.take j) (post:=post) (by rw [List.length_take];omega) (FC j hm) (fun e he=>hw e (List.mem_of_mem_take he)) h1
 have hno:eA ((aD l).take k) (aD (l.take j)).length=none:=by
  cases ho:eA ((aD l).take k) (aD (l.take j)).length with
  | none=>rfl
  | some pe =>
    obtain ⟨p,e⟩:=pe
    exfalso
    obtain ⟨Uh,Ui,post',hp⟩:=Bu ho
    rw [h1,List.drop_left] at hp
    rcases h2 with ⟨hj,more,hne,hq⟩ | ⟨_,rfl⟩
    · rw [hp] at hq
      have hme:bT l[j]=true:=by
       rw [List.all_eq_true] at hm
       exact hm _ (List.getElem_mem hj)
      have xR:=y8 hme
      have NU:=vT (bp l[j])
      have h3:=congrArg List.length hq
      rw [List.length_append,List.length_append] at h3
      have:=Jt p
      have hf:=B9 (p:=p) (q:=bp l[j]) (r:=post'++more) (r':=[]) (by rw [List.append_nil,← hq,List.append_assoc]) (by omega) (by omega)
      exact hne (List.append_eq_nil_iff.1 hf.2).2
    · have:=congrArg List.length hp
      rw [List.length_append] at this
      have h4:(aX p).length=0:=by simp at this;omega
      simp [aX,four] at h4
 rw [BH hno] at hr
 refine ⟨j,hjl,hr,by omega,fun hj => ?_,fun hj => ?_⟩
 · rcases h2 with ⟨_,more,hne,hq⟩ | ⟨h,_⟩
   · rw [← hq,List.length_append]
     have:0<more.length:=List.length_pos_iff.2 hne
     omega
   · omega
 · rcases h2 with ⟨h,_⟩ | ⟨_,hp⟩
   · omega
   · rw [hp] at hlen
     rw [hj,List.take_length] at hlen
     simpa using hlen
abbrev zI:List S:=[.int .i64 0,.int .i64 0,.int .i64 0,.int .i64 0,.int .u32 0]
theorem x7 {len cap lo hi m:Nat} (h:lo<=hi) (k:hi<=m) (l:m<=cap):cY len cap (some (I .i64 lo)) (some (I .i64 hi)) (some (I .i64 m))=some (lo,hi,m):=by
 have e:∀ {a b:Nat},a<=b->mN (I .i64 a) b=some a:=fun {a b} h=>by
  have h1:(a:Int)<=(b:Int):=by omega
  simp [mN,h]
 delta cY
 dsimp only
 rw [e l]
 dsimp only
 rw [e k]
 dsimp only
 rw [e h]
theorem Dy:aM Tryz.prog (sm 136 5 zI):=by
 refine yF (qm Tryz.prog 8 1) ?_
 intro f ts σ r h
 unfold sm at h
 split at h
 · cases h
 · rename_i hf
   have L7:=Nat.eq_of_beq_eq_true hf
   subst L7
   split at h
   · rename_i i o n q a b
     split at h
     · rename_i vs hb
       split at h
       · rename_i hd
         have jV:=of_decide_eq_true hd
         obtain ⟨rfl,ha,rfl,QU,hn,hv⟩:=jV
         cases h
         obtain ⟨k,rfl⟩:∃ k:Nat,a=k:=⟨a.toNat,by omega⟩
         refine ⟨i,o,n,5,n-1,_,_,_,rfl,hb,rfl,fun c hc => ?_⟩
         have hkn:k+1<=n:=by omega
         rw [Int.toNat_natCast]
         rw [(au rfl Tryz.func136 (by kernel_rfl)).trans (Kv _ _ _ _ _ _)]
         unfold f136
         have ek:((k:Nat):Int)+1=((k+1:Nat):Int):=by omega
         rw [ek]
         have p1:ax 5 (Z (.sl i o n (.known c))) (some (I .i64 ((k:Nat):Int))) (some (I .i64 ((k+1:Nat):Int))) (some (I .i64 ((n:Nat):Int)))=some (Z (.sl i (if n=k then o else o+k*5) (k+1-k) (.known (n-k)))):=by
          simp only [ax,x7 (show k<=k+1 by omega) hkn hc]
         have p2:ax 5 (Z (.sl i o n (.known c))) none (some (I .i64 ((k:Nat):Int))) none=some (Z (.sl i o k (.known c))):=by
          simp only [ax,dS (show k<=c by omega),Nat.zero_mul,Nat.add_zero,ite_self,Nat.sub_zero]
         have p3:ax 5 (Z (.sl i o n (.known c))) (some (I .i64 ((k+1:Nat):Int))) none none=some (Z (.sl i (if c=k+1 then o else o+(k+1)*5) (n-(k+1)) (.known (c-(k+1))))):=by
          simp only [ax,df hkn hc]
         have src:eT 5 (Z (.sl i (if c=k+1 then o else o+(k+1)*5) (n-(k+1)) (.known (c-(k+1))))) σ.get=some (n-(k+1),(vs.drop (o+(k+1)*5)).take ((n-1-k)*5)):=by
          by_cases hz:n-(k+1)=0
          · have:n-1-k=0:=by omega
            simp [eT,hz,this]
          · have h1:¬ c=k+1:=by omega
            have h2:o+(k+1)*5+(n-(k+1))*5<=vs.length:=by omega
            have h3:n-1-k=n-(k+1):=by omega
            simp only [eT,if_neg hz,if_neg h1,hb,if_pos h2,h3]
         obtain ⟨v1,Mn⟩:∃ v1,v1=aO vs (o+k*5) ((vs.drop (o+(k+1)*5)).take ((n-1-k)*5)):=⟨_,rfl⟩
         have hl1:v1.length=vs.length:=by rw [Mn,dI]
         have ap:aH 5 40 (Z (.sl i o k (.known c))) (Z (.sl i (if c=k+1 then o else o+(k+1)*5) (n-(k+1)) (.known (c-(k+1))))) σ=some (Z (.sl i o (n-1) (.known c)),σ.set i (.cells true v1)):=by
          have h1:(n-1)*40<=140737488355328:=by omega
          have h2:n-1<=c:=by omega
          have h3:True/\o+k*5+(n-(k+1))*5<=vs.length:=⟨trivial,by omega⟩
          have h4:k+(n-(k+1))=n-1:=by omega
          simp only [aH,src,if_neg (show ¬ (5:Nat)=0 by decide),hb,h4]
          rw [if_pos h1,if_pos h2,if_pos h3,Mn]
         have p4:ax 5 (Z (.sl i o (n-1) (.known c))) (some (I .i64 ((n-1:Nat):Int))) (some (I .i64 ((n:Nat):Int))) none=some (Z (.sl i (o+(n-1)*5) (n-(n-1)) (.known (c-(n-1))))):=by
          have h1:¬ c=n-1:=by omega
          simp only [ax,rM (show n-1<=n by omega) hc,if_neg h1]
         have cl:kP 5 zI (Z (.sl i (o+(n-1)*5) (n-(n-1)) (.known (c-(n-1))))) (σ.set i (.cells true v1))=some (tt,(σ.set i (.cells true v1)).set i (.cells true (aO v1 (o+(n-1)*5) zI))):=by
          have h1:n-(n-1)=1:=by omega
          have h2:o+(n-1)*5+1*5<=v1.length:=by omega
          simp only [kP,h1,if_neg (show ¬ (1:Nat)=0 by decide),St.ar,if_pos h2]
          rfl
         have le1:aA (Z (.sl i o n (.known c)))=some (I .i64 ((n:Nat):Int)):=rfl
         have MA:aA (Z (.sl i o (n-1) (.known c)))=some (I .i64 ((n-1:Nat):Int)):=rfl
         simp only [zI] at cl ⊢
         clear hc hn QU hv hkn ha
         have nk:¬ (((k:Nat):Int)=((k+1:Nat):Int)):=by omega
         rw [← Mn]
         generalize ((n-1:Nat):Int)=N1 at *
         generalize ((n:Nat):Int)=NN at *
         generalize ((k+1:Nat):Int)=K1 at *
         generalize ((k:Nat):Int)=K at *
         simp only [le1,MA,fm,p1,wJ,decide_eq_false nk,jx,p2,p3,ap,iA,p4,cl]
       · cases h
     · cases h
   · cases h
theorem M4:Ix Tryz.prog 177=true:=by kernel_rfl
theorem HH (a w b z:List S) (hz:z.length=w.length+b.length):aO (aO (a++z) a.length w) (a.length+w.length) b=a++w++b:=by
 rw [bS (a++z) a.length w (by simp;omega),List.take_left,bS _ _ b (by simp;omega)]
 rw [List.take_left' (by simp),List.drop_eq_nil_of_le (by simp;omega),List.append_nil]
theorem HJ (a w b r:List S) (hr:w.length<=r.length):(aO (aO (a++b++r) (a.length+w.length) b) a.length w).take (a.length+w.length+b.length)=a++w++b:=by
 have hX:∃ q,aO (a++b++r) (a.length+w.length) b=a++(q++b++r.drop w.length)/\q.length=w.length:=by
  refine ⟨(b++r).take w.length,?_,by simp;omega⟩
  rw [bS _ _ b (by simp;omega),List.append_assoc a b r,List.take_append,List.drop_append]
  have e1:a.take (a.length+w.length)=a:=List.take_of_length_le (by omega)
  have e2:a.drop (a.length+w.length+b.length)=[]:=List.drop_eq_nil_of_le (by omega)
  have e3:a.length+w.length+b.length-a.length=b.length+w.length:=by omega
  rw [e1,e2,e3,Nat.add_sub_cancel_left,List.nil_append,List.drop_append,List.drop_eq_nil_of_le (by omega),List.nil_append,Nat.add_sub_cancel_left]
  simp only [List.append_assoc]
 obtain ⟨q,hq,hl⟩:=hX
 rw [hq,bS _ _ w (by simp;omega),List.take_left,List.drop_append,List.drop_eq_nil_of_le (by omega),List.nil_append,Nat.add_sub_cancel_left,List.append_assoc q,List.drop_left' hl,← List.append_assoc (a++w),List.take_left' (by simp;omega)]
section
variable {σ:St} {i j p n k c:Nat} {vs us:List S}
theorem ve (hkn:k<n) (hn:n<=1000000) :
 af .eql (I .i64 1) (I .i64 0)=some (B false)/\af .eql (I .i64 ((k:Nat):Int)) (I .i64 ((n:Nat):Int))=some (B false)/\af .add (I .i64 ((n:Nat):Int)) (I .i64 1)=some (I .i64 ((n+1:Nat):Int)) ∧
  af .add (I .i64 ((k:Nat):Int)) (I .i64 1)=some (I .i64 ((k+1:Nat):Int))/\af .sub (I .i64 ((n+1:Nat):Int)) (I .i64 ((k:Nat):Int))=some (I .i64 ((n+1-k:Nat):Int)):=by
 have h1:¬ (((k:Nat):Int)=((n:Nat):Int)):=by omega
 have h2:IntKind.i64.wrap ((n:Int)+1)=((n+1:Nat):Int):=by rw [aB _ (by omega) (by omega)];omega
 have h3:IntKind.i64.wrap ((k:Int)+1)=((k+1:Nat):Int):=by rw [aB _ (by omega) (by omega)];omega
 have h4:IntKind.i64.wrap (((n+1:Nat):Int)-(k:Int))=((n+1-k:Nat):Int):=by rw [aB _ (by omega) (by omega)];omega
 refine ⟨rfl,?_,?_,?_,?_⟩
 · rw [wJ,decide_eq_false h1]
 · rw [dm,h2]
 · rw [dm,h3]
 · rw [jg,h4]
theorem HC (d:Nat) (wf:σ.wf) (hi:σ.get i=some (.cells true vs)) (hj:σ.get j=some (.cells true us)) (hkn:k<n) (hn:n<=1000000) (hv:n*5<=vs.length) (hij:i≠j) (hp:p+5<=us.length) :
 ∃ τ,f135 (eO Tryz.prog 8 mX d) 8 (Z (.sl i 0 n (.known n))) (I .i64 k) (Z (.sl j p 1 (.known 1))) σ=some (Z (.sl σ.size 0 (n+1) (.grown 5)),τ)/\τ.size=σ.size+1 ∧
   τ.get σ.size=some (.cells true (vs.take (k*5)++(us.drop p).take 5++(vs.drop (k*5)).take ((n-k)*5)))/\∀ b,b<σ.size->τ.get b=σ.get b:=by
 obtain ⟨f1,f2,f3,f4,f5⟩:=ve hkn hn
 obtain ⟨N,hN⟩:∃ N,N=σ.size:=⟨_,rfl⟩
 obtain ⟨a,ha⟩:∃ a,a=vs.take (k*5):=⟨_,rfl⟩
 obtain ⟨w,hw⟩:∃ w,w=(us.drop p).take 5:=⟨_,rfl⟩
 obtain ⟨b,hb⟩:∃ b,b=(vs.drop (k*5)).take ((n-k)*5):=⟨_,rfl⟩
 have hla:a.length=k*5:=by rw [ha,List.length_take];omega
 have VQ:w.length=5:=by rw [hw];simp;omega
 have PI:b.length=(n-k)*5:=by rw [hb];simp;omega
 obtain ⟨z,hz⟩:∃ z,z=dc (n+1-k) zI:=⟨_,rfl⟩
 have hlz:z.length=(n+1-k)*5:=by rw [hz];exact vU (e:=5) rfl _
 have WX:aA (Z (.sl i 0 n (.known n)))=some (I .i64 ((n:Nat):Int)):=rfl
 have MA:aA (Z (.sl j p 1 (.known 1)))=some (I .i64 1):=rfl
 have cp:x8 (Z (.sl i 0 n (.known n)))=some (I .i64 ((n:Nat):Int)):=rfl
 have gt:af .gtr (I .i64 ((n+1:Nat):Int)) (I .i64 ((n:Nat):Int))=some (B true):=by
  rw [Cs,decide_eq_true (by omega)]
 have p1:ax 5 (Z (.sl i 0 n (.known n))) (some (I .i64 ((k:Nat):Int))) none none=some (Z (.sl i (k*5) (n-k) (.known (n-k)))):=by
  have h1:¬ n=k:=by omega
  simp only [ax,df (show k<=n by omega) (Nat.le_refl n),if_neg h1,Nat.zero_add]
 have p2:ax 5 (Z (.sl i 0 n (.known n))) none (some (I .i64 ((k:Nat):Int))) none=some (Z (.sl i 0 k (.known n))):=by
  simp only [ax,dS (show k<=n by omega),Nat.zero_mul,Nat.add_zero,ite_self,Nat.sub_zero]
 obtain ⟨s1,hs1⟩:∃ s1,s1=σ.push (.cells true (a++z)):=⟨_,rfl⟩
 have gr:kQ 5 40 [.int .i64 0,.int .i64 0,.int .i64 0,.int .i64 0,.int .u32 0] (Z (.sl i 0 k (.known n))) (I .i64 ((n+1-k:Nat):Int)) σ=some (Z (.sl N 0 (n+1) (.grown 5)),s1):=by
  have h1:0<((n+1-k:Nat):Int)/\k<=n/\n<k+((n+1-k:Nat):Int).toNat/\(k+((n+1-k:Nat):Int).toNat)*40<=140737488355328/\(5:Nat)≠0/\0+k*5<=vs.length:=by
   rw [Int.toNat_natCast]
   refine ⟨by omega,by omega,by omega,by omega,by decide,by omega⟩
  have h2:k+((n+1-k:Nat):Int).toNat=n+1:=by omega
  simp only [kQ,hi]
  rw [if_pos h1,h2,Int.toNat_natCast,List.drop_zero,← ha,hs1,hz,hN]
 have g1:s1.get N=some (.cells true (a++z)):=by rw [hs1,hN];exact St.aq _ _
 have o1:∀ q,q≠N->s1.get q=σ.get q:=fun q hq=>by rw [hs1];exact St.aI _ _ (by rw [← hN];exact hq)
 have p3:ax 5 (Z (.sl N 0 (n+1) (.grown 5))) (some (I .i64 ((k:Nat):Int))) none none=some (Z (.sl N (k*5) (n+1-k) (.grown 5))):=by
  simp only [ax,df (show k<=n+1 by omega) (Nat.le_refl (n+1)),if_pos trivial,if_pos (show k<n+1 by omega),Nat.zero_add]
 have p4:ax 5 (Z (.sl N 0 (n+1) (.grown 5))) (some (I .i64 ((k+1:Nat):Int))) none none=some (Z (.sl N ((k+1)*5) (n-k) (.grown 5))):=by
  have h1:n+1-(k+1)=n-k:=by omega
  simp only [ax,df (show k+1<=n+1 by omega) (Nat.le_refl (n+1)),if_pos trivial,if_pos (show k+1<n+1 by omega),Nat.zero_add,h1]
 have jN:j≠N:=by have:=wf.lt hj;omega
 have iN:i≠N:=by have:=wf.lt hi;omega
 have NG:s1.get j=some (.cells true us):=by rw [o1 j jN];exact hj
 have Qr:eT 5 (Z (.sl j p 1 (.known 1))) s1.get=some (1,w):=by
  simp only [eT,if_neg (show ¬ (1:Nat)=0 by decide),NG,Nat.one_mul,if_pos hp,hw]
 have Md:Nat.min 1 (n+1-k)=1:=by show min 1 (n+1-k)=1;omega
 obtain ⟨A1,Pq⟩:∃ A1,A1=aO (a++z) (k*5) w:=⟨_,rfl⟩
 obtain ⟨s2,pd⟩:∃ s2,s2=s1.set N (.cells true A1):=⟨_,rfl⟩
 have TW:fM 5 (Z (.sl N (k*5) (n+1-k) (.grown 5))) (Z (.sl j p 1 (.known 1))) s1=some (I .i64 ((1:Nat):Int),s2):=by
  have h1:k*5+1*5<=(a++z).length:=by simp;omega
  have h2:w.take (1*5)=w:=List.take_of_length_le (by omega)
  simp only [fM,Qr,g1,Md]
  rw [if_pos h1,h2,pd,Pq]
 have g2:s2.get N=some (.cells true A1):=by rw [pd];exact St.ar _ _ _
 have hi2:s2.get i=some (.cells true vs):=by rw [pd,St.aj _ _ iN,o1 i iN];exact hi
 have hnk:¬ n-k=0:=by omega
 have Qs:eT 5 (Z (.sl i (k*5) (n-k) (.known (n-k)))) s2.get=some (n-k,b):=by
  have h1:k*5+(n-k)*5<=vs.length:=by omega
  simp only [eT,if_neg hnk,hi2,if_pos h1,hb]
 have PM:Nat.min (n-k) (n-k)=n-k:=by show min (n-k) (n-k)=n-k;omega
 obtain ⟨A2,QP⟩:∃ A2,A2=aO A1 ((k+1)*5) b:=⟨_,rfl⟩
 obtain ⟨s3,mw⟩:∃ s3,s3=s2.set N (.cells true A2):=⟨_,rfl⟩
 have TX:fM 5 (Z (.sl N ((k+1)*5) (n-k) (.grown 5))) (Z (.sl i (k*5) (n-k) (.known (n-k)))) s2=some (I .i64 ((n-k:Nat):Int),s3):=by
  have h1:(k+1)*5+(n-k)*5<=A1.length:=by rw [Pq,dI];simp;omega
  have h2:b.take ((n-k)*5)=b:=List.take_of_length_le (by omega)
  simp only [fM,Qs,g2,PM]
  rw [if_pos h1,h2,mw,QP]
 have Hg:A2=a++w++b:=by
  have:=HH a w b z (by omega)
  rw [hla,VQ] at this
  rw [QP,Pq,Nat.add_mul,Nat.one_mul]
  exact this
 refine ⟨s3,?_,by rw [mw,pd,hs1];rfl,by rw [← hN,mw,St.ar,Hg,ha,hw,hb],fun q hq => ?_⟩
 · unfold f135
   rw [← hN]
   clear hi hj hi2 NG hv hp wf
   have U4:((1:Nat):Int)=1:=rfl
   rw [U4] at TW
   generalize n+1-k=M at *
   generalize ((n+1:Nat):Int)=N1 at *
   generalize ((k+1:Nat):Int)=K1 at *
   generalize ((M:Nat):Int)=MI at *
   generalize ((n:Nat):Int)=NI at *
   generalize ((k:Nat):Int)=KI at *
   simp only [p1,WX,MA,fm,f1,jx,f2,f3,cp,gt,iV,p2,f5,gr,iA,p3,TW,f4,p4,TX]
 · rw [mw,pd,St.aj _ _ (by omega),St.aj _ _ (by omega),o1 q (by omega)]
theorem HE (d:Nat) (hi:σ.get i=some (.cells true vs)) (hj:σ.get j=some (.cells true us)) (hkn:k<n) (hn:n<=1000000) (hc:n+1<=c) (hv:vs.length=c*5) (hij:i≠j) (hp:p+5<=us.length) :
 ∃ τ B,f135 (eO Tryz.prog 8 mX d) 8 (Z (.sl i 0 n (.known c))) (I .i64 k) (Z (.sl j p 1 (.known 1))) σ=some (Z (.sl i 0 (n+1) (.known c)),τ)/\τ.size=σ.size ∧
   τ.get i=some (.cells true B)/\B.length=vs.length/\B.take ((n+1)*5)=vs.take (k*5)++(us.drop p).take 5++(vs.drop (k*5)).take ((n-k)*5)/\∀ b,b≠i->τ.get b=σ.get b:=by
 obtain ⟨f1,f2,f3,f4,f5⟩:=ve hkn hn
 obtain ⟨a,ha⟩:∃ a,a=vs.take (k*5):=⟨_,rfl⟩
 obtain ⟨w,hw⟩:∃ w,w=(us.drop p).take 5:=⟨_,rfl⟩
 obtain ⟨b,hb⟩:∃ b,b=(vs.drop (k*5)).take ((n-k)*5):=⟨_,rfl⟩
 obtain ⟨r,hr⟩:∃ r,r=vs.drop (n*5):=⟨_,rfl⟩
 have hla:a.length=k*5:=by rw [ha,List.length_take];omega
 have VQ:w.length=5:=by rw [hw];simp;omega
 have PI:b.length=(n-k)*5:=by rw [hb];simp;omega
 have hlr:5<=r.length:=by rw [hr];simp;omega
 have hvs:vs=a++b++r:=by
  have h1:vs.drop (k*5)=b++r:=by
   rw [hb,hr]
   have:n*5=k*5+(n-k)*5:=by omega
   rw [this,← List.drop_drop]
   exact (List.take_append_drop _ _).symm
  rw [List.append_assoc,← h1,ha]
  exact (List.take_append_drop _ _).symm
 have WX:aA (Z (.sl i 0 n (.known c)))=some (I .i64 ((n:Nat):Int)):=rfl
 have MA:aA (Z (.sl j p 1 (.known 1)))=some (I .i64 1):=rfl
 have cp:x8 (Z (.sl i 0 n (.known c)))=some (I .i64 ((c:Nat):Int)):=rfl
 have gt:af .gtr (I .i64 ((n+1:Nat):Int)) (I .i64 ((c:Nat):Int))=some (B false):=by
  rw [Cs,decide_eq_false (by omega)]
 have p0:ax 5 (Z (.sl i 0 n (.known c))) (some (I .i64 ((k:Nat):Int))) none none=some (Z (.sl i (k*5) (n-k) (.known (c-k)))):=by
  have h1:¬ c=k:=by omega
  simp only [ax,df (show k<=n by omega) (show n<=c by omega),if_neg h1,Nat.zero_add]
 have p1:ax 5 (Z (.sl i 0 n (.known c))) none (some (I .i64 ((n+1:Nat):Int))) none=some (Z (.sl i 0 (n+1) (.known c))):=by
  simp only [ax,dS hc,Nat.zero_mul,Nat.add_zero,ite_self,Nat.sub_zero]
 have p2:ax 5 (Z (.sl i 0 (n+1) (.known c))) (some (I .i64 ((k+1:Nat):Int))) none none=some (Z (.sl i ((k+1)*5) (n-k) (.known (c-(k+1))))):=by
  have h1:¬ c=k+1:=by omega
  have h2:n+1-(k+1)=n-k:=by omega
  simp only [ax,df (show k+1<=n+1 by omega) hc,if_neg h1,Nat.zero_add,h2]
 have p3:ax 5 (Z (.sl i 0 (n+1) (.known c))) (some (I .i64 ((k:Nat):Int))) none none=some (Z (.sl i (k*5) (n+1-k) (.known (c-k)))):=by
  have h1:¬ c=k:=by omega
  simp only [ax,df (show k<=n+1 by omega) hc,if_neg h1,Nat.zero_add]
 have ov:tR Tryz.prog 177 [Z (.sl j p 1 (.known 1)),Z (.sl i ((k+1)*5) (n-k) (.known (c-(k+1))))] σ=some (B false,σ):=by
  have h1:Nat.beq j i=false:=by
   cases h:Nat.beq j i with
   | false=>rfl
   | true=>exact absurd (Nat.eq_of_beq_eq_true h).symm hij
  simp only [tR,Cd,hi,hj,h1,M4]
 have no:jO .not (B false)=some (B true):=rfl
 have Qr:eT 5 (Z (.sl i (k*5) (n+1-k) (.known (c-k)))) σ.get=some (n+1-k,(vs.drop (k*5)).take ((n+1-k)*5)):=by
  have h1:k*5+(n+1-k)*5<=vs.length:=by omega
  simp only [eT,if_neg (show ¬ n+1-k=0 by omega),hi,if_pos h1]
 have Md:Nat.min (n+1-k) (n-k)=n-k:=by show min (n+1-k) (n-k)=n-k;omega
 have hbt:((vs.drop (k*5)).take ((n+1-k)*5)).take ((n-k)*5)=b:=by
  rw [List.take_take,hb]
  congr 1;omega
 obtain ⟨A1,Pq⟩:∃ A1,A1=aO vs ((k+1)*5) b:=⟨_,rfl⟩
 obtain ⟨s1,hs1⟩:∃ s1,s1=σ.set i (.cells true A1):=⟨_,rfl⟩
 have TW:fM 5 (Z (.sl i ((k+1)*5) (n-k) (.known (c-(k+1))))) (Z (.sl i (k*5) (n+1-k) (.known (c-k)))) σ=some (I .i64 ((n-k:Nat):Int),s1):=by
  have h1:(k+1)*5+(n-k)*5<=vs.length:=by omega
  simp only [fM,Qr,hi,Md]
  rw [if_pos h1,hbt,hs1,Pq]
 have g1:s1.get i=some (.cells true A1):=by rw [hs1];exact St.ar _ _ _
 have NG:s1.get j=some (.cells true us):=by rw [hs1,St.aj _ _ (fun h=>hij h.symm)];exact hj
 have Qs:eT 5 (Z (.sl j p 1 (.known 1))) s1.get=some (1,w):=by
  simp only [eT,if_neg (show ¬ (1:Nat)=0 by decide),NG,Nat.one_mul,if_pos hp,hw]
 have PM:Nat.min 1 (n+1-k)=1:=by show min 1 (n+1-k)=1;omega
 obtain ⟨A2,QP⟩:∃ A2,A2=aO A1 (k*5) w:=⟨_,rfl⟩
 obtain ⟨s2,pd⟩:∃ s2,s2=s1.set i (.cells true A2):=⟨_,rfl⟩
 have hl1:A1.length=vs.length:=by rw [Pq,dI]
 have TX:fM 5 (Z (.sl i (k*5) (n+1-k) (.known (c-k)))) (Z (.sl j p 1 (.known 1))) s1=some (I .i64 ((1:Nat):Int),s2):=by
  have h1:k*5+1*5<=A1.length:=by omega
  have h2:w.take (1*5)=w:=List.take_of_length_le (by omega)
  simp only [fM,Qs,g1,PM]
  rw [if_pos h1,h2,pd,QP]
 have Hg:A2.take ((n+1)*5)=a++w++b:=by
  have:=HJ a w b r (by omega)
  rw [← hvs,hla,VQ,PI] at this
  have e1:k*5+5=(k+1)*5:=by omega
  have e2:(k+1)*5+(n-k)*5=(n+1)*5:=by omega
  rw [e1,e2] at this
  rw [QP,Pq]
  exact this
 refine ⟨s2,A2,?_,by rw [pd,hs1];simp,by rw [pd];exact St.ar _ _ _,by rw [QP,dI,hl1],by rw [Hg,ha,hw,hb],fun q hq=>by rw [pd,hs1,St.aj _ _ hq,St.aj _ _ hq]⟩
 unfold f135
 clear hi hj NG hv hp
 have U4:((1:Nat):Int)=1:=rfl
 rw [U4] at TX
 generalize ((n-k:Nat):Int)=NK at *
 generalize ((n+1:Nat):Int)=N1 at *
 generalize ((k+1:Nat):Int)=K1 at *
 generalize ((c:Nat):Int)=CI at *
 generalize ((n:Nat):Int)=NI at *
 generalize ((k:Nat):Int)=KI at *
 simp only [p0,WX,MA,fm,f1,jx,f2,f3,cp,gt,p1,f4,p2,ov,iA,no,iV,p3,TW,TX]
end
theorem pg:aM Tryz.prog (nP 135 5):=by
 have body:∀ (a0 a1 a2:T) (σ:St),eO Tryz.prog 8 mX 1 135 [a0,a1,a2] σ=f135 (eO Tryz.prog 8 mX 0) 8 a0 a1 a2 σ:=fun a0 a1 a2 σ =>
  (au rfl Tryz.func135 (by kernel_rfl)).trans (Cg _ _ _ _ _ _)
 refine Go.Abs.F.pg (qm Tryz.prog 8 1) ?_ ?_
 · intro σ i n k j p vs us wf h1 h2 h3 h4 h5 h6 h7
   obtain ⟨τ,e1,e2⟩:=HC 0 wf h1 h2 h3 h4 h5 h6 h7
   exact ⟨τ,(body _ _ _ _).trans e1,e2⟩
 · intro σ i n k j p c vs us h1 h2 h3 h4 h5 h6 h7 h8
   obtain ⟨τ,B,e1,e2⟩:=HE 0 h1 h2 h3 h4 h5 h6 h7 h8
   exact ⟨τ,B,(body _ _ _ _).trans e1,e2⟩
structure dv where
 i:Int
 t:Int
 f:Int
 o:Int
 u:Int
 deriving DecidableEq
def cI (x:dv):List S:=[.int .i64 x.i,.int .i64 x.t,.int .i64 x.f,.int .i64 x.o,.int .u32 x.u]
abbrev AI (x:dv):T := .v (.agg (cI x))
theorem fP (x:dv):(cI x).length=5:=rfl
def xY (s:St) (x:S) (l:List dv):Prop:=(x = .az/\l=[])\/∃ c vs,x = .sl c 0 l.length (.grown 5)/\s.get c=some (.cells true vs)/\vs.take (l.length*5)=cells cI l
section
variable {s t:St} {x:S} {l:List dv}
theorem xY.rd (h:xY s x l):Rd 5 s x l.length (cells cI l):=by
 rcases h with ⟨rfl,rfl⟩ | ⟨c,vs,rfl,hb,ht⟩
 · exact Rd.nil 5 s
 · have hl:=dJ (e:=5) fP l
   refine ⟨hl,.inr ⟨c,0,_,true,vs,rfl,hb,?_,by rw [List.drop_zero];exact ht⟩,rfl⟩
   have:=congrArg List.length ht
   rw [List.length_take,hl] at this
   omega
theorem xY.keep (h:xY s x l) (hk:∀ c,own x=some c->t.get c=s.get c):xY t x l:=by
 rcases h with ⟨rfl,rfl⟩ | ⟨c,vs,rfl,hb,ht⟩
 · exact .inl ⟨rfl,rfl⟩
 · exact .inr ⟨c,vs,rfl,by rw [hk c rfl];exact hb,ht⟩
theorem xY.lt (h:xY s x l) (wf:s.wf) {c:Nat} (hc:own x=some c):c<s.size:=by
 rcases h with ⟨rfl,rfl⟩ | ⟨d,vs,rfl,hb,ht⟩
 · cases hc
 · cases hc;exact wf.lt hb
theorem xY.TK (h:xY s x l) {j:Nat} {n:Int} {a:dv} (hn:n=j) (ha:l[j]? = some a):∃ p,av 5 (Z x) (I .i64 n)=some p/\aG 5 p s.get=some (AI a):=by
 obtain ⟨c,p,h1,_,h3⟩:=Rd.at h.rd hn (List.getElem?_eq_some_iff.1 ha).1
 rw [jy fP ha] at h3
 exact ⟨_,h1,h3⟩
def iB (id:Int) (a:dv):Int:=IntKind.i64.wrap (a.i-id)
theorem J5 {id:Int} {a:dv} (h0:0<=id) (h1:id<=1073741824) (h2:0<=a.i) (h3:a.i<=1073741824):iB id a=a.i-id:=aB _ (by omega) (by omega)
theorem wz (d:Nat) (wf:s.wf) (a:dv) (id:Int):∃ t,R (d+1) 176 [AI a,I .i64 id] s=some (I .i64 (iB id a),t)/\Gr s t:=by
 rw [GF]
 unfold f176
 obtain ⟨s1,hs1⟩:∃ s1,s1=s.push (.cells true (cI a)):=⟨_,rfl⟩
 have nw:aK s (ct (AI a))=some (Z (.ptr s.size 0),s1):=by rw [hs1];rfl
 have fa:ae 0 (Z (.ptr s.size 0))=some (Z (.ptr s.size 0)):=rfl
 have ld:ab (Z (.ptr s.size 0)) s1.get=some (I .i64 a.i):=ai (by rw [hs1];exact St.aq _ _) rfl
 refine ⟨s1,?_,by rw [hs1];exact Gr.push wf _⟩
 simp only [nw,iA,fa,fm,ld,jg]
 rfl
theorem FY {aa:ak} {f:Nat} {args:List T} {σ:St} (h:eF Tryz.prog f=true):dyn Tryz.prog aa (Z (.iP f [])) args σ=aa f args σ:=by
 simp only [dyn,h,if_true,List.map_nil,List.append_nil]
theorem yd:eF Tryz.prog 176=true:=by kernel_rfl
structure Found (l:List dv) (id:Int) (k:Nat):Prop where
 le:k<=l.length
 low:(∀ (a b:Nat) (x y:dv),a<b->l[a]? = some x->l[b]? = some y->iB id y<0->iB id x<0)->∀ (a:Nat) (x:dv),a<k->l[a]? = some x->iB id x<0
 high:(∀ (a b:Nat) (x y:dv),a<b->l[a]? = some x->l[b]? = some y->iB id y<0->iB id x<0)->∀ (a:Nat) (x:dv),k<=a->l[a]? = some x->¬ iB id x<0
def kU (l:List dv) (id:Int) (k:Nat):Bool:=match l[k]? with
 | some a=>decide (iB id a=0)
 | none=>false
set_option maxHeartbeats 1000000 in
theorem J3 (d:Nat) (wf:s.wf) (h:xY s x l) (hl:l.length<=8000) (id:Int):∃ k t,R (d+2) 175 [Z x,I .i64 id,Z (.iP 176 [])] s=some (.eD [.s (.int .i64 ((k:Nat):Int)),.s (.bool (kU l id k))],t)/\Gr s t/\Found l id k:=by
 rw [GD]
 unfold f175
 have ll:=h.rd.lens
 have dy:∀ (u:St) (a:dv),u.wf->∃ t,dyn Tryz.prog (R (d+1)) (Z (.iP 176 [])) [AI a,I .i64 id] u=some (I .i64 (iB id a),t)/\Gr u t:=fun u a hu=>by
  obtain ⟨t,e,g⟩:=wz d hu a id
  exact ⟨t,by rw [FY yd];exact e,g⟩
 obtain ⟨JM,hM⟩:∃ JM,JM=∀ (a b:Nat) (x y:dv),a<b->l[a]? = some x->l[b]? = some y->iB id y<0->iB id x<0:=⟨_,rfl⟩
 obtain ⟨j,τ,lp,hj⟩:=aW (f:=nF (R (d+1)) 8192)
  (fun q v u=>∃ lo hi:Nat,hi-lo<=q/\lo<=hi/\hi<=l.length/\v=[Z x,I .i64 id,Z (.iP 176 []),I .i64 ((l.length:Nat):Int),I .i64 ((lo:Nat):Int),I .i64 ((hi:Nat):Int)]/\Gr s u ∧
   (JM->(∀ (a:Nat) (y:dv),a<lo->l[a]? = some y->iB id y<0)/\∀ (a:Nat) (y:dv),hi<=a->l[a]? = some y->¬ iB id y<0))
  (fun j u=>∃ k:Nat,j = .exit 0 [Z x,I .i64 id,Z (.iP 176 []),I .i64 ((l.length:Nat):Int),I .i64 ((k:Nat):Int)]/\k<=l.length/\Gr s u ∧
   (JM->(∀ (a:Nat) (y:dv),a<k->l[a]? = some y->iB id y<0)/\∀ (a:Nat) (y:dv),k<=a->l[a]? = some y->¬ iB id y<0)) (by
  rintro q v u ⟨lo,hi,hq,hlh,NF,rfl,g,hinv⟩
  by_cases hlt:lo<hi
  · left
    obtain ⟨m,hm⟩:∃ m,m=(lo+hi) / 2:=⟨_,rfl⟩
    have Md:lo<=m:=by omega
    have PM:m<hi:=by omega
    have cg:l[m]? = some l[m]:=List.getElem?_eq_getElem (by omega)
    obtain ⟨y,hy⟩:∃ y,y=l[m]:=⟨_,rfl⟩
    rw [← hy] at cg
    have hu:=h.keep (t:=u) fun c hc=>g.2.2 c (h.lt wf hc)
    obtain ⟨p,ix,ld⟩:=hu.TK (n:=((m:Nat):Int)) rfl cg
    obtain ⟨t1,TY,g1⟩:=dy u y g.wf
    have c0:((lo:Nat):Int)<((hi:Nat):Int):=by omega
    have a1:IntKind.i64.wrap ((lo:Int)+(hi:Int))=((lo+hi:Nat):Int):=by rw [aB _ (by omega) (by omega)];omega
    have a2:aF .u64 (I .i64 ((lo+hi:Nat):Int))=some (I .u64 ((lo+hi:Nat):Int)):=by
     show some (I .u64 (IntKind.u64.wrap ((lo+hi:Nat):Int)))=_
     rw [wrap64 _ (by omega)]
    have a3:af .shr (I .u64 ((lo+hi:Nat):Int)) (I .u64 1)=some (I .u64 ((m:Nat):Int)):=by
     have:=eS .u64 (lo+hi) 1 (by decide)
     rw [hm]
     exact this
    have a4:aF .i64 (I .u64 ((m:Nat):Int))=some (I .i64 ((m:Nat):Int)):=by
     show some (I .i64 (IntKind.i64.wrap ((m:Nat):Int)))=_
     rw [qC _ (by omega)]
    have w1:IntKind.i64.wrap ((m:Int)+1)=((m+1:Nat):Int):=by rw [aB _ (by omega) (by omega)];omega
    by_cases hc:iB id y<0
    · refine ⟨[Z x,I .i64 id,Z (.iP 176 []),I .i64 ((l.length:Nat):Int),I .i64 ((m+1:Nat):Int),I .i64 ((hi:Nat):Int)],t1,q-1,?_,by omega,m+1,hi,by omega,by omega,NF,rfl,g.trans g1,fun hmo=>⟨fun a z ha hz => ?_,(hinv hmo).2⟩⟩
      · unfold nF
        generalize R (d+1)=r at *
        generalize ((lo+hi:Nat):Int)=LH at *
        generalize ((m+1:Nat):Int)=M1 at *
        generalize ((m:Nat):Int)=M at *
        generalize ((hi:Nat):Int)=HI at *
        generalize ((lo:Nat):Int)=LO at *
        generalize ((l.length:Nat):Int)=LL at *
        simp [c0,a1,a2,a3,a4,ix,ld,TY,hc,w1]
      · by_cases e:a=m
        · subst e;rw [cg] at hz;cases hz;exact hc
        · rw [hM] at hmo;exact hmo a m z y (by omega) hz cg hc
    · refine ⟨[Z x,I .i64 id,Z (.iP 176 []),I .i64 ((l.length:Nat):Int),I .i64 ((lo:Nat):Int),I .i64 ((m:Nat):Int)],t1,q-1,?_,by omega,lo,m,by omega,by omega,by omega,rfl,g.trans g1,fun hmo=>⟨(hinv hmo).1,fun a z ha hz SQ => ?_⟩⟩
      · unfold nF
        generalize R (d+1)=r at *
        generalize ((lo+hi:Nat):Int)=LH at *
        generalize ((m+1:Nat):Int)=M1 at *
        generalize ((m:Nat):Int)=M at *
        generalize ((hi:Nat):Int)=HI at *
        generalize ((lo:Nat):Int)=LO at *
        generalize ((l.length:Nat):Int)=LL at *
        simp [c0,a1,a2,a3,a4,ix,ld,TY,hc]
      · by_cases e:a=m
        · subst e;rw [cg] at hz;cases hz;exact hc SQ
        · rw [hM] at hmo;exact hc (hmo m a y z (by omega) cg hz SQ)
  · right
    have eC:lo=hi:=by omega
    subst eC
    refine ⟨_,u,?_,(fun v hv=>by cases hv),lo,rfl,NF,g,hinv⟩
    have c0:¬ ((lo:Nat):Int)<((lo:Nat):Int):=by omega
    unfold nF
    simp [c0]) 8192 l.length [Z x,I .i64 id,Z (.iP 176 []),I .i64 ((l.length:Nat):Int),I .i64 0,I .i64 ((l.length:Nat):Int)] s
  ⟨0,l.length,by omega,by omega,by omega,rfl,Gr.refl wf,fun _=>⟨fun a y ha=>by omega,fun a y ha hy=>by have:=(List.getElem?_eq_some_iff.1 hy).1;omega⟩⟩ (by omega)
 obtain ⟨k,rfl,hk,g,hinv⟩:=hj
 rw [hM] at hinv
 have hF:Found l id k:=⟨hk,fun m=>(hinv m).1,fun m=>(hinv m).2⟩
 by_cases eU:k<l.length
 · have cg:l[k]? = some l[k]:=List.getElem?_eq_getElem eU
   obtain ⟨y,hy⟩:∃ y,y=l[k]:=⟨_,rfl⟩
   rw [← hy] at cg
   have hu:=h.keep (t:=τ) fun c hc=>g.2.2 c (h.lt wf hc)
   obtain ⟨p,ix,ld⟩:=hu.TK (n:=((k:Nat):Int)) rfl cg
   obtain ⟨t1,TY,g1⟩:=dy τ y g.wf
   have c0:((k:Nat):Int)<((l.length:Nat):Int):=by omega
   have hh:kU l id k=decide (iB id y=0):=by simp only [kU,cg]
   refine ⟨k,t1,?_,g.trans g1,hF⟩
   rw [hh]
   clear hinv hF dy
   generalize R (d+1)=r at *
   generalize ((k:Nat):Int)=K at *
   generalize ((l.length:Nat):Int)=LL at *
   generalize iB id y=CY at *
   simp [ll,lp,c0,ix,ld,TY,aQ,bI]
 · have Ma:k=l.length:=by omega
   have hh:kU l id k=false:=by simp only [kU,List.getElem?_eq_none (by omega:l.length<=k)]
   have c0:¬ ((k:Nat):Int)<((l.length:Nat):Int):=by omega
   refine ⟨k,τ,?_,g,hF⟩
   rw [hh]
   clear hinv hF dy Ma
   generalize R (d+1)=r at *
   generalize ((k:Nat):Int)=K at *
   generalize ((l.length:Nat):Int)=LL at *
   simp [ll,lp,c0,aQ,bI]
theorem Ms {f0 e i o n q j p m c:Nat} {k:Int} {σ:St} {vs us:List S} (hi:σ.get i=some (.cells true vs)) (hj:σ.get j=some (.cells true us))
 (hd:decide (q=e/\o=0/\0<=k/\k<n/\m=1/\c=1/\n<=1000000/\n*e<=vs.length/\i≠j/\p+e<=us.length/\e≠0)=true) :
 nP f0 e f0 [Z (.sl i o n (.grown q)),I .i64 k,Z (.sl j p m (.known c))] σ=some (Z (.sl σ.size 0 (n+1) (.grown e)),(σ.set i .dead).push (.cells true (vs.take (k.toNat*e)++(us.drop p).take e++(vs.drop (k.toNat*e)).take ((n-k.toNat)*e)))):=by
 have hn:Nat.beq f0 f0=true:=Nat.beq_refl f0
 delta nP
 dsimp only
 rw [hn]
 dsimp only
 rw [hi,hj]
 dsimp only
 rw [hd]
theorem HD {f0 e i o n q j p m c:Nat} {k:Int} {σ:St} {vs us:List S} (hi:σ.get i=some (.cells true vs)) (hj:σ.get j=some (.cells true us))
 (hd:decide (q=e/\o=0/\0<=k/\k<n/\m=1/\c=1/\n<=1000000/\n*e<=vs.length/\i≠j/\p+e<=us.length/\e≠0)=false) :
 nP f0 e f0 [Z (.sl i o n (.grown q)),I .i64 k,Z (.sl j p m (.known c))] σ=none:=by
 have hn:Nat.beq f0 f0=true:=Nat.beq_refl f0
 delta nP
 dsimp only
 rw [hn]
 dsimp only
 rw [hi,hj]
 dsimp only
 rw [hd]
theorem J9 {f0 e i o n q:Nat} {a b:Int} {z:List S} {σ:St} {vs:List S} (hi:σ.get i=some (.cells true vs)) (hd:decide (q=e/\0<=a/\b=a+1/\b<=n/\n<=1000000/\o+n*e<=vs.length)=true) :
 sm f0 e z f0 [Z (.sl i o n (.grown q)),I .i64 a,I .i64 b] σ=some (Z (.sl i o (n-1) (.grown e)),(σ.set i (.cells true (aO vs (o+a.toNat*e) ((vs.drop (o+(a.toNat+1)*e)).take ((n-1-a.toNat)*e))))).set i (.cells true (aO (aO vs (o+a.toNat*e) ((vs.drop (o+(a.toNat+1)*e)).take ((n-1-a.toNat)*e))) (o+(n-1)*e) z))):=by
 have hn:Nat.beq f0 f0=true:=Nat.beq_refl f0
 delta sm
 dsimp only
 rw [hn]
 dsimp only
 rw [hi]
 dsimp only
 rw [hd]
theorem CF (d:Nat) {a0 a1 a2:T} {s:St} (hp:dw 135 [a0,a1,a2] s=none):R (d+1) 135 [a0,a1,a2] s=f135 (R d) 8192 a0 a1 a2 s :=
 (au hp Tryz.func135 (by kernel_rfl)).trans (Cg _ _ _ _ _ _)
structure Rs (s t:St) (x y:S) (l:List dv):Prop where
 wf:t.wf
 le:s.size<=t.size
 ins:xY t y l
 old:∀ b,b<s.size->own x≠some b->t.get b=s.get b
 new:∀ c,own y=some c->own x=some c\/s.size<=c
theorem Mt (d:Nat) (wf:s.wf) (h:xY s x l) (hl:l.length<=8000) {k j:Nat} (hk:k<=l.length) {a:dv} (hj:s.get j=some (.cells true (cI a))) (hjx:∀ c,own x=some c->c≠j) :
 ∃ y t,R (d+1) 135 [Z x,I .i64 ((k:Nat):Int),Z (.sl j 0 1 (.known 1))] s=some (Z y,t)/\Rs s t x y (l.take k++a::l.drop k):=by
 have mv:=dJ (e:=5) fP l
 have hjs:=wf.lt hj
 have src:eT 5 (Z (.sl j 0 1 (.known 1))) s.get=some (1,cI a):=by
  simp only [eT,if_neg (show ¬ (1:Nat)=0 by decide),hj]
  rw [if_pos (show 0+1*5<=(cI a).length by simp [cI])]
  rfl
 have MA:aA (Z (.sl j 0 1 (.known 1)))=some (I .i64 1):=rfl
 have f1:af .eql (I .i64 1) (I .i64 0)=some (B false):=rfl
 rcases h with ⟨rfl,rfl⟩ | ⟨c,vs,rfl,hb,ht⟩
 · -- a nil list
   have hk0:k=0:=by simpa using hk
   subst hk0
   have hp:dw 135 [Z .az,I .i64 ((0:Nat):Int),Z (.sl j 0 1 (.known 1))] s=none:=by
    rw [tw];rfl
   rw [CF d hp]
   unfold f135
   have p1:ax 5 (Z .az) (some (I .i64 ((0:Nat):Int))) none none=some (Z .az):=rfl
   have ap:aH 5 40 (Z .az) (Z (.sl j 0 1 (.known 1))) s=some (Z (.sl s.size 0 1 (.grown 5)),s.push (.cells true (cI a))):=by
    simp only [aH,src]
    rfl
   have e0:aA (Z .az)=some (I .i64 ((0:Nat):Int)):=rfl
   have f2:af .eql (I .i64 ((0:Nat):Int)) (I .i64 ((0:Nat):Int))=some (B true):=rfl
   refine ⟨.sl s.size 0 1 (.grown 5),s.push (.cells true (cI a)),?_,St.bn wf _,by simp,.inr ⟨s.size,cI a,rfl,St.aq _ _,by simp [cells,cI]⟩,fun b hb _=>St.aI _ _ (by omega),fun c hc=>by cases hc;exact .inr (Nat.le_refl _)⟩
   simp only [p1,fm,MA,f1,jx,e0,f2,iV,ap,iA]
 · have hcj:c≠j:=hjx c rfl
   have hvl:l.length*5<=vs.length:=by
    have:=congrArg List.length ht
    rw [List.length_take,mv] at this
    omega
   have hcs:=wf.lt hb
   by_cases eU:k<l.length
   · -- ahead of TJ
     have hd:decide ((5:Nat)=5/\(0:Nat)=0/\(0:Int)<=((k:Nat):Int)/\((k:Nat):Int)<((l.length:Nat):Int)/\(1:Nat)=1/\(1:Nat)=1/\l.length<=1000000/\l.length*5<=vs.length/\c≠j/\0+5<=(cI a).length/\(5:Nat)≠0)=true :=
      decide_eq_true ⟨rfl,rfl,by omega,by omega,rfl,rfl,by omega,hvl,hcj,by simp [cI],by decide⟩
     have hi:nP 135 5 135 [Z (.sl c 0 l.length (.grown 5)),I .i64 ((k:Nat):Int),Z (.sl j 0 1 (.known 1))] s =
      some (Z (.sl s.size 0 (l.length+1) (.grown 5)),(s.set c .dead).push (.cells true (vs.take (k*5)++((cI a).drop 0).take 5++(vs.drop (k*5)).take ((l.length-k)*5)))):=by
      rw [Ms hb hj hd,Int.toNat_natCast]
     have hr:=dK (P:=Tryz.prog) (N:=8192) (d:=d) (tw.trans hi)
     refine ⟨_,_,hr,St.bn (St.wf_set wf hcs _) _,by simp,.inr ⟨s.size,vs.take (k*5)++((cI a).drop 0).take 5++(vs.drop (k*5)).take ((l.length-k)*5),?_,?_,?_⟩,fun b hb' hne => ?_,fun d hd=>by cases hd;exact .inr (Nat.le_refl _)⟩
     · have:(l.take k++a::l.drop k).length=l.length+1:=by simp;omega
       rw [this]
     · exact St.aq (s.set c .dead) _
     · have e1:(cI a).drop 0=cI a:=rfl
       have e2:(cI a).take 5=cI a:=rfl
       have e3:vs.take (k*5)=cells cI (l.take k):=by
        rw [← mR (e:=5) fP k l,← ht,List.take_take]
        congr 1;omega
       have e4:(vs.drop (k*5)).take ((l.length-k)*5)=cells cI (l.drop k):=by
        rw [← jP (e:=5) fP k l,← ht,List.drop_take]
        congr 1;omega
       have e5:cells cI (l.take k++a::l.drop k)=cells cI (l.take k)++cI a++cells cI (l.drop k):=by
        simp [cells]
       rw [e1,e2,e3,e4,← e5,List.take_of_length_le]
       rw [dJ (e:=5) fP]
       omega
     · rw [St.aI (s.set c .dead) _ (by simp;omega),St.aj _ _ (fun e=>hne (by rw [e];rfl))]
   · -- at the end
     have Ma:k=l.length:=by omega
     subst Ma
     have hd:decide ((5:Nat)=5/\(0:Nat)=0/\(0:Int)<=((l.length:Nat):Int)/\((l.length:Nat):Int)<((l.length:Nat):Int)/\(1:Nat)=1/\(1:Nat)=1/\l.length<=1000000/\l.length*5<=vs.length/\c≠j/\0+5<=(cI a).length/\(5:Nat)≠0)=false :=
      decide_eq_false fun h=>by omega
     have hp:dw 135 [Z (.sl c 0 l.length (.grown 5)),I .i64 ((l.length:Nat):Int),Z (.sl j 0 1 (.known 1))] s=none:=by
      rw [tw,HD hb hj hd]
     rw [CF d hp]
     unfold f135
     have p1:ax 5 (Z (.sl c 0 l.length (.grown 5))) (some (I .i64 ((l.length:Nat):Int))) none none=some (Z (.emp c 5)):=by
      simp only [ax,df (Nat.le_refl l.length) (Nat.le_refl l.length),if_pos trivial,if_neg (Nat.lt_irrefl _)]
     have e0:aA (Z (.sl c 0 l.length (.grown 5)))=some (I .i64 ((l.length:Nat):Int)):=rfl
     have f2:af .eql (I .i64 ((l.length:Nat):Int)) (I .i64 ((l.length:Nat):Int))=some (B true):=by
      rw [wJ,decide_eq_true rfl]
     have hsz:(l.take l.length++a::l.drop l.length).length=l.length+1:=by simp
     have nN:l.take l.length++a::l.drop l.length=l++[a]:=by simp
     have hcell:cells cI (l++[a])=cells cI l++cI a:=by simp [cells]
     have c1:True/\(l.length+1)*40<=140737488355328:=⟨trivial,by omega⟩
     by_cases hroom:0+(l.length+1)*5<=vs.length
     · have ap:aH 5 40 (Z (.sl c 0 l.length (.grown 5))) (Z (.sl j 0 1 (.known 1))) s=some (Z (.sl c 0 (l.length+1) (.grown 5)),s.set c (.cells true (aO vs (0+l.length*5) (cI a)))):=by
        simp only [aH,src,if_neg (show ¬ (5:Nat)=0 by decide),if_neg (show ¬ (1:Nat)=0 by decide),hb]
        rw [if_pos c1,if_pos hroom]
       refine ⟨.sl c 0 (l.length+1) (.grown 5),s.set c (.cells true (aO vs (0+l.length*5) (cI a))),by simp only [p1,fm,MA,f1,jx,e0,f2,iV,ap,iA],St.wf_set wf hcs _,by simp,.inr ⟨c,_,by rw [hsz],St.ar _ _ _,?_⟩,fun b hb' hne=>St.aj _ _ (fun e=>hne (by rw [e];rfl)),fun d hd => .inl hd⟩
       rw [nN,hcell,bS _ _ _ (by simp [cI];omega),Nat.zero_add,ht,List.take_left']
       simp [mv,cI];omega
     · have ap:aH 5 40 (Z (.sl c 0 l.length (.grown 5))) (Z (.sl j 0 1 (.known 1))) s=some (Z (.sl s.size 0 (l.length+1) (.grown 5)),(s.set c .dead).push (.cells true ((vs.drop 0).take (l.length*5)++cI a))):=by
        simp only [aH,src,if_neg (show ¬ (5:Nat)=0 by decide),if_neg (show ¬ (1:Nat)=0 by decide),hb]
        rw [if_pos c1,if_neg hroom,if_pos (by omega)]
       refine ⟨.sl s.size 0 (l.length+1) (.grown 5),(s.set c .dead).push (.cells true ((vs.drop 0).take (l.length*5)++cI a)),by simp only [p1,fm,MA,f1,jx,e0,f2,iV,ap,iA],St.bn (St.wf_set wf hcs _) _,by simp,.inr ⟨s.size,_,by rw [hsz],St.aq (s.set c .dead) _,?_⟩,fun b hb' hne => ?_,fun d hd=>by cases hd;exact .inr (Nat.le_refl _)⟩
       · rw [nN,hcell,List.drop_zero,ht,List.take_of_length_le]
         simp [mv,cI];omega
       · rw [St.aI (s.set c .dead) _ (by simp;omega),St.aj _ _ (fun e=>hne (by rw [e];rfl))]
theorem Ka (d:Nat) (wf:s.wf) (h:xY s x l) (hl:l.length<=8000) {k:Nat} (hk:k<l.length) :
 ∃ y t,R (d+1) 136 [Z x,I .i64 ((k:Nat):Int),I .i64 ((k+1:Nat):Int)] s=some (Z y,t)/\Rs s t x y (l.take k++l.drop (k+1)):=by
 have mv:=dJ (e:=5) fP l
 rcases h with ⟨rfl,rfl⟩ | ⟨c,vs,rfl,hb,ht⟩
 · simp at hk
 · have hvl:l.length*5<=vs.length:=by
    have:=congrArg List.length ht
    rw [List.length_take,mv] at this
    omega
   have hcs:=wf.lt hb
   have hd:decide ((5:Nat)=5/\(0:Int)<=((k:Nat):Int)/\((k+1:Nat):Int)=((k:Nat):Int)+1/\((k+1:Nat):Int)<=((l.length:Nat):Int)/\l.length<=1000000/\0+l.length*5<=vs.length)=true :=
    decide_eq_true ⟨rfl,by omega,by omega,by omega,by omega,by omega⟩
   obtain ⟨A,hA⟩:∃ A,A=aO vs (0+k*5) ((vs.drop (0+(k+1)*5)).take ((l.length-1-k)*5)):=⟨_,rfl⟩
   obtain ⟨Bl,hB⟩:∃ Bl,Bl=aO A (0+(l.length-1)*5) [.int .i64 0,.int .i64 0,.int .i64 0,.int .i64 0,.int .u32 0]:=⟨_,rfl⟩
   have hi:sm 136 5 [.int .i64 0,.int .i64 0,.int .i64 0,.int .i64 0,.int .u32 0] 136 [Z (.sl c 0 l.length (.grown 5)),I .i64 ((k:Nat):Int),I .i64 ((k+1:Nat):Int)] s =
    some (Z (.sl c 0 (l.length-1) (.grown 5)),(s.set c (.cells true A)).set c (.cells true Bl)):=by
    rw [J9 hb hd,Int.toNat_natCast,← hA,← hB]
   have hr:=dK (P:=Tryz.prog) (N:=8192) (d:=d) (IC hi)
   have hsz:(l.take k++l.drop (k+1)).length=l.length-1:=by simp;omega
   refine ⟨_,_,hr,St.wf_set (St.wf_set wf hcs _) (by simpa using hcs) _,by simp,.inr ⟨c,Bl,by rw [hsz],St.ar _ _ _,?_⟩,fun b hb' hne => ?_,fun d hd => .inl hd⟩
   · have e3:vs.take (k*5)=cells cI (l.take k):=by
      rw [← mR (e:=5) fP k l,← ht,List.take_take]
      congr 1;omega
     have e4:(vs.drop ((k+1)*5)).take ((l.length-1-k)*5)=cells cI (l.drop (k+1)):=by
      rw [← jP (e:=5) fP (k+1) l,← ht,List.drop_take]
      congr 1;omega
     have hln:((vs.drop ((k+1)*5)).take ((l.length-1-k)*5)).length=(l.length-1-k)*5:=by simp;omega
     have hAl:A.length=vs.length:=by rw [hA,dI]
     have e6:A.take ((l.length-1)*5)=cells cI (l.take k)++cells cI (l.drop (k+1)):=by
      rw [hA,Nat.zero_add,Nat.zero_add,bS _ _ _ (by rw [hln];omega),e3,e4,List.take_left']
      rw [List.length_append,dJ (e:=5) fP,dJ (e:=5) fP]
      simp;omega
     have e7:Bl.take ((l.length-1)*5)=A.take ((l.length-1)*5):=by
      rw [hB,Nat.zero_add,bS _ _ _ (by simp;omega),List.append_assoc,List.take_left']
      simp;omega
     rw [hsz,e7,e6,fp]
   · have Sh:b≠c:=fun e=>hne (by rw [e];rfl)
     rw [St.aj _ _ Sh,St.aj _ _ Sh]
end
structure FoS where
 l:List dv
 cW:List Int
 ie:qN
 v:Int
 w:Int
def Bi (id:Int) (a:dv):Bool:=decide (a.i<id)
def kJ (l:List dv) (id:Int):Nat:=(l.takeWhile (Bi id)).length
def fZ (l:List dv) (id:Int):Bool:=l.any fun a=>decide (a.i=id)
def wR (e:bA):dv:=⟨e.i,e.t,e.f,e.o,e.u⟩
def nO (l:List dv) (a:dv):List dv:=l.take (kJ l a.i)++a::l.drop (kJ l a.i)
def wE (l:List dv) (id:Int):List dv:=l.take (kJ l id)++l.drop (kJ l id+1)
def bz (q:FoS) (e:bA):Int :=
 if bT e=true then (if e.k=1/\e.i∈q.cW then 7 else if e.k=2/\fZ q.l e.i=false then 9 else if e.v<q.w then 12 else 0) else 1
def cT (q:FoS) (e:bA):FoS :=
 if e.k=1 then ⟨nO q.l (wR e),q.cW++[e.i],q.ie,q.v,e.v⟩
 else if e.k=2 then ⟨wE q.l e.i,q.cW,q.ie,q.v,e.v⟩
 else if e.k=3 then ⟨q.l,q.cW,q.ie,e.v,e.v⟩
 else ⟨q.l,q.cW,(fB e.x).1,q.v,e.v⟩
def aZ (q:FoS):List bA->Int×FoS
 | []=>(0,q)
 | e::r=>if bz q e=0 then aZ (cT q e) r else (bz q e,q)
def kT:FoS:=⟨[],[],kH,0,0⟩
structure Ff (q:FoS):Prop where
 up:q.l.Pairwise fun a b=>a.i<b.i
 Qm:∀ a∈q.l,1<=a.i/\a.i<=1073741824
 ev:∀ a∈q.l,a.i∈q.cW
 len:q.l.length<=q.cW.length
theorem AO:Ff kT:=⟨.nil,(by intro a h;simp [kT] at h),(by intro a h;simp [kT] at h),Nat.le_refl _⟩
theorem Jo {α:Type} {p:α->Bool}:∀ (l:List α) (k:Nat),k<=l.length->(∀ (a:Nat) (x:α),a<k->l[a]? = some x->p x=true)->(∀ x,l[k]? = some x->p x=false)->(l.takeWhile p).length=k
 | [],k,h,_,_=>by simp at h;subst h;rfl
 | a::l,0,_,_,h=>by
   have:=h a rfl
   simp [List.takeWhile_cons,this]
 | a::l,k+1,hk,h1,h2=>by
   have h0:=h1 0 a (by omega) rfl
   rw [List.takeWhile_cons,h0]
   simp only [if_true,List.length_cons]
   rw [Jo l k (by simpa using hk) (fun b x hb hx=>h1 (b+1) x (by omega) (by simpa using hx)) (fun x hx=>h2 x (by simpa using hx))]
theorem Ji (l:List dv) (id:Int):l.take (kJ l id)=l.takeWhile (Bi id):=by
 unfold kJ
 induction l with
 | nil=>rfl
 | cons a l ih =>
   rw [List.takeWhile_cons]
   split
   · rw [List.length_cons,List.take_succ_cons,ih]
   · rfl
theorem FX (l:List dv) (id:Int):l.drop (kJ l id)=l.dropWhile (Bi id):=by
 unfold kJ
 induction l with
 | nil=>rfl
 | cons a l ih =>
   rw [List.takeWhile_cons,List.dropWhile_cons]
   split
   · rw [List.length_cons,List.drop_succ_cons,ih]
   · rfl
theorem nS {l:List dv} {id:Int} {a:dv} (h:a∈l.take (kJ l id)):a.i<id:=by
 rw [Ji] at h
 have:∀ m:List dv,a∈m.takeWhile (Bi id)->a.i<id:=by
  intro m
  induction m with
  | nil=>intro h;cases h
  | cons b m ih =>
    intro h
    rw [List.takeWhile_cons] at h
    split at h
    · rename_i hb
      rcases List.mem_cons.1 h with rfl | h
      · simpa [Bi] using hb
      · exact ih h
    · cases h
 exact this l h
theorem o8 {l:List dv} {id:Int} (hp:l.Pairwise fun a b=>a.i<b.i) {a:dv} (h:a∈l.drop (kJ l id)):id<=a.i:=by
 rw [FX] at h
 have:∀ m:List dv,(m.Pairwise fun a b=>a.i<b.i)->a∈m.dropWhile (Bi id)->id<=a.i:=by
  intro m
  induction m with
  | nil=>intro _ h;cases h
  | cons b m ih =>
    intro hp h
    rw [List.dropWhile_cons] at h
    split at h
    · exact ih (List.pairwise_cons.1 hp).2 h
    · rename_i hb
      have hb':id<=b.i:=by simpa [Bi] using hb
      rcases List.mem_cons.1 h with rfl | h
      · exact hb'
      · have:=(List.pairwise_cons.1 hp).1 a h
        omega
 exact this l hp h
theorem N8 {l:List dv} (hp:l.Pairwise fun a b=>a.i<b.i) {a b:Nat} {x y:dv} (hab:a<b) (hx:l[a]? = some x) (hy:l[b]? = some y):x.i<y.i:=by
 obtain ⟨h1,rfl⟩:=List.getElem?_eq_some_iff.1 hx
 obtain ⟨h2,rfl⟩:=List.getElem?_eq_some_iff.1 hy
 exact List.pairwise_iff_getElem.1 hp a b h1 h2 hab
theorem sG {l:List dv} {id:Int} {k:Nat} (h:Found l id k) (hp:l.Pairwise fun a b=>a.i<b.i) (hr:∀ a∈l,1<=a.i/\a.i<=1073741824) (h0:1<=id) (h1:id<=1073741824):k=kJ l id/\kU l id k=fZ l id:=by
 have hc:∀ a∈l,iB id a=a.i-id:=fun a ha=>by
  have:=hr a ha
  exact J5 (by omega) h1 (by omega) this.2
 have hm:∀ (a b:Nat) (x y:dv),a<b->l[a]? = some x->l[b]? = some y->iB id y<0->iB id x<0:=fun a b x y hab hx hy hlt=>by
  have:=N8 hp hab hx hy
  rw [hc y (List.mem_of_getElem? hy)] at hlt
  rw [hc x (List.mem_of_getElem? hx)]
  omega
 have hl:∀ (a:Nat) (x:dv),a<k->l[a]? = some x->x.i<id:=fun a x ha hx=>by
  have:=h.low hm a x ha hx
  rw [hc x (List.mem_of_getElem? hx)] at this
  omega
 have hh:∀ (a:Nat) (x:dv),k<=a->l[a]? = some x->id<=x.i:=fun a x ha hx=>by
  have:=h.high hm a x ha hx
  rw [hc x (List.mem_of_getElem? hx)] at this
  omega
 refine ⟨(Jo l k h.le (fun a x ha hx=>decide_eq_true (hl a x ha hx)) (fun x hx=>decide_eq_false (by have:=hh k x (Nat.le_refl _) hx;omega))).symm,?_⟩
 unfold kU fZ
 cases hk:l[k]? with
 | none =>
   symm
   rw [List.any_eq_false]
   intro x hx
   obtain ⟨a,ha⟩:=List.getElem?_of_mem hx
   have hle:l.length<=k:=List.getElem?_eq_none_iff.1 hk
   have:=hl a x (by have:=(List.getElem?_eq_some_iff.1 ha).1;omega) ha
   simp only [decide_eq_true_eq]
   omega
 | some y =>
   have hy:=List.mem_of_getElem? hk
   show decide (iB id y=0)=_
   rw [hc y hy]
   by_cases e:y.i=id
   · rw [decide_eq_true (by omega)]
     symm
     rw [List.any_eq_true]
     exact ⟨y,hy,by simpa using e⟩
   · rw [decide_eq_false (by omega)]
     symm
     rw [List.any_eq_false]
     intro x hx
     obtain ⟨a,ha⟩:=List.getElem?_of_mem hx
     simp only [decide_eq_true_eq]
     intro ex
     have hyk:=hh k y (Nat.le_refl _) hk
     rcases Nat.lt_trichotomy a k with hlt | rfl | hgt
     · have:=hl a x hlt ha;omega
     · rw [ha] at hk;cases hk;exact e ex
     · have:=N8 hp hgt hk ha;omega
theorem HV {l:List dv} {id:Int} (hp:l.Pairwise fun a b=>a.i<b.i) (h:fZ l id=true):kJ l id<l.length:=by
 unfold fZ at h
 rw [List.any_eq_true] at h
 obtain ⟨x,hx,ex⟩:=h
 have ET:x.i=id:=by simpa using ex
 have hd:x∈l.drop (kJ l id):=by
  have hx':=hx
  rw [← List.take_append_drop (kJ l id) l] at hx'
  rcases List.mem_append.1 hx' with h | h
  · have:=nS h;omega
  · exact h
 rcases Nat.lt_or_ge (kJ l id) l.length with h | h
 · exact h
 · rw [List.drop_eq_nil_of_le h] at hd;cases hd
theorem HU (l:List dv) (id:Int):kJ l id<=l.length:=(List.takeWhile_sublist _).length_le
theorem sU {l:List dv} {a b:dv} (h:b∈nO l a):b=a\/b∈l:=by
 unfold nO at h
 rcases List.mem_append.1 h with h | h
 · exact .inr (List.mem_of_mem_take h)
 · rcases List.mem_cons.1 h with h | h
   · exact .inl h
   · exact .inr (List.mem_of_mem_drop h)
theorem yn (l:List dv) (id:Int):(wE l id).Sublist l:=by
 have h:=List.take_append_drop (kJ l id) l
 conv=>rhs;rw [← h]
 exact List.Sublist.append (List.Sublist.refl _) (by rw [← List.drop_drop];exact List.drop_sublist 1 _)
theorem CM {q:FoS} {e:bA} (h:Ff q) (ha:bz q e=0):Ff (cT q e):=by
 have hm:bT e=true:=by
  unfold bz at ha
  by_cases hm:bT e=true
  · exact hm
  · rw [if_neg hm] at ha;cases ha
 obtain ⟨v0,v1,k0,k1,h1,h2,h3,h4⟩:=dY hm
 unfold cT
 by_cases c1:e.k=1
 · rw [if_pos c1]
   have hne:e.i∉q.cW:=by
    unfold bz at ha
    rw [if_pos hm] at ha
    intro hin
    rw [if_pos ⟨c1,hin⟩] at ha
    cases ha
   obtain ⟨_,i0,i1,_⟩:=h1 c1
   refine ⟨?_,fun a ha => ?_,fun a ha => ?_,?_⟩
   · show (nO q.l (wR e)).Pairwise _
     unfold nO
     refine List.pairwise_append.2 ⟨h.up.sublist (List.take_sublist _ _),List.pairwise_cons.2 ⟨fun b hb => ?_,h.up.sublist (List.drop_sublist _ _)⟩,fun a ha b hb => ?_⟩
     · have uh:=o8 h.up hb
       have iu:=h.ev b (List.mem_of_mem_drop hb)
       have:b.i≠e.i:=fun he=>hne (by rw [← he];exact iu)
       show e.i<b.i
       have:e.i<=b.i:=uh
       omega
     · have ha1:=nS ha
       rcases List.mem_cons.1 hb with rfl | hb
       · exact ha1
       · have:=o8 h.up hb
         omega
   · rcases sU ha with rfl | ha
     · exact ⟨i0,i1⟩
     · exact h.Qm a ha
   · rcases sU ha with rfl | ha
     · exact List.mem_append_right _ (by simp [wR])
     · exact List.mem_append_left _ (h.ev a ha)
   · have:=h.len
     simp only [nO,List.length_append,List.length_take,List.length_cons,List.length_drop,List.length_nil]
     have:=HU q.l (wR e).i
     omega
 · rw [if_neg c1]
   by_cases c2:e.k=2
   · rw [if_pos c2]
     have hs:=yn q.l e.i
     exact ⟨h.up.sublist hs,fun a ha=>h.Qm a (hs.subset ha),fun a ha=>h.ev a (hs.subset ha),Nat.le_trans hs.length_le h.len⟩
   · rw [if_neg c2]
     by_cases c3:e.k=3
     · rw [if_pos c3];exact ⟨h.up,h.Qm,h.ev,h.len⟩
     · rw [if_neg c3];exact ⟨h.up,h.Qm,h.ev,h.len⟩
theorem vq {q:FoS} {e:bA}:(cT q e).cW.length<=q.cW.length+1:=by
 unfold cT
 split
 · simp
 · split
   · simp
   · split<;>simp
def cH (l:List bA) (n:Nat):Nat:=(aD (l.take n)).length
def mC (l:List bA):List Int:=(List.range l.length).map fun j=>((cH l (j+1):Nat):Int)
@[simp] theorem QM (l:List bA):(mC l).length=l.length:=by simp [mC]
theorem lE (l:List bA):cH l 0=0:=by simp [cH,aD]
theorem dD (l:List bA):cH l l.length=(aD l).length:=by simp [cH]
theorem DB {l:List bA} {j:Nat} (h:j<l.length):(mC l)[j]? = some ((cH l (j+1):Nat):Int):=by
 simp [mC,h]
theorem jm (l m:List bA) {n:Nat} (h:n<=l.length):cH (l++m) n=cH l n:=by
 unfold cH
 rw [List.take_append_of_le_length h]
theorem AD (l:List bA) (e:bA):mC (l++[e])=mC l++[(((aD l).length+(aX (bp e)).length:Nat):Int)]:=by
 unfold mC
 rw [List.length_append,List.length_singleton,List.range_succ,List.map_append]
 congr 1
 · apply List.map_congr_left
   intro j hj
   rw [jm _ _ (by have:=List.mem_range.1 hj;omega)]
 · simp only [List.map_cons,List.map_nil]
   rw [show l.length+1=(l++[e]).length by simp,dD,gX,List.length_append]
theorem jl:∀ (a b:List bA) (q:FoS),aZ q (a++b)=if (aZ q a).1=0 then aZ (aZ q a).2 b else aZ q a
 | [],b,q=>by simp [aZ]
 | e::a,b,q=>by
   have h1:aZ q (e::a)=if bz q e=0 then aZ (cT q e) a else (bz q e,q):=rfl
   have h2:aZ q (e::a++b)=if bz q e=0 then aZ (cT q e) (a++b) else (bz q e,q):=rfl
   by_cases h:bz q e=0
   · rw [if_pos h] at h1 h2
     rw [h1,h2]
     exact jl a b _
   · rw [if_neg h] at h1 h2
     rw [h1,h2,if_neg h]
theorem eZ {l:List bA} {q q':FoS} {e:bA} (h:aZ q l=(0,q')) (he:bz q' e=0):aZ q (l++[e])=(0,cT q' e):=by
 rw [jl,h]
 simp [aZ,he]
theorem yD {l:List bA} {q q':FoS} (h:aZ q l=(0,q')) (n:Nat):∃ Qk,aZ q (l.take n)=(0,Qk)/\aZ Qk (l.drop n)=(0,q'):=by
 have h1:=jl (l.take n) (l.drop n) q
 rw [List.take_append_drop,h] at h1
 by_cases h2:(aZ q (l.take n)).1=0
 · rw [if_pos h2] at h1
   exact ⟨_,Prod.ext h2 rfl,h1.symm⟩
 · rw [if_neg h2] at h1
   rw [← h1] at h2
   exact absurd rfl h2
theorem gv {q:FoS} {e:bA} (h:bz q e=0):bT e=true:=by
 unfold bz at h
 by_cases hm:bT e=true
 · exact hm
 · rw [if_neg hm] at h;cases h
theorem oU:∀ {l:List bA} {q q':FoS},aZ q l=(0,q')->Ff q->l.all bT=true/\Ff q'/\q'.cW.length<=q.cW.length+l.length
 | [],q,q',h,hq=>by
   cases h
   exact ⟨rfl,hq,by simp⟩
 | e::l,q,q',h,hq=>by
   simp only [aZ] at h
   by_cases ha:bz q e=0
   · rw [if_pos ha] at h
     obtain ⟨h1,h2,h3⟩:=oU h (CM hq ha)
     refine ⟨by rw [List.all_cons,gv ha,h1];rfl,h2,?_⟩
     have:=vq (q:=q) (e:=e)
     simp only [List.length_cons]
     omega
   · rw [if_neg ha] at h
     injection h with h1 h2
     exact absurd h1 ha
def N5 (k:Nat):Bs:=[115,101,97,108,32,UInt8.ofNat (48+k / 10),UInt8.ofNat (48+k%10)]
def I3 (k:Nat):bA:=⟨4,0,0,0,0,0,0,N5 k⟩
def I4:List Nat->qN
 | []=>kH
 | [k]=>(fB (N5 k)).1
 | _::r=>I4 r
def Nf (ks:List Nat):FoS:=⟨[],[],I4 ks,0,0⟩
def nT (cW:List Int):List (S×V):=cW.map fun i=>(S.int .i64 i,V.s (.bool true))
def cF (x:S) (mp:Nat) (q:FoS):List S:=[x,.map mp,.int .i64 q.ie.a0,.int .i64 q.ie.a1,.int .i64 q.ie.a2,.int .i64 q.ie.a3,.int .i64 q.ie.c,.int .i64 q.ie.n,.int .i64 q.v,.int .i64 q.w]
theorem oT (i:Int):∀ (l:List Int) (k:Nat),(i∈l->∃ j,eX (.int .i64 i) (nT l) k=some (some (j,V.s (.bool true))))/\(i∉l->eX (.int .i64 i) (nT l) k=some none)
 | [],k=>⟨fun h=>by simp at h,fun _=>rfl⟩
 | a::l,k=>by
   obtain ⟨h1,h2⟩:=oT i l (k+1)
   by_cases e:i=a
   · subst e
     refine ⟨fun _=>⟨k,by simp [nT,eX,iX]⟩,fun h=>(h (by simp)).elim⟩
   · have hk:eX (.int .i64 i) (nT (a::l)) k=eX (.int .i64 i) (nT l) (k+1):=by simp [nT,eX,iX,e]
     rw [hk]
     exact ⟨fun h=>h1 (by rcases List.mem_cons.1 h with h | h;exact (e h).elim;exact h),fun h=>h2 fun hh=>h (List.mem_cons_of_mem _ hh)⟩
theorem Ea {g:Mem} {mp:Nat} {cW:List Int} (h:g mp=some (.map (nT cW))) (i:Int):Go.Abs.F.look .i false (.s (.bool false)) (Z (.map mp)) (I .i64 i) g=some (B (decide (i∈cW))):=by
 obtain ⟨h1,h2⟩:=oT i cW 0
 have hk:isKey .i (I .i64 i)=true:=rfl
 unfold Go.Abs.F.look
 rw [if_pos hk]
 by_cases hi:i∈cW
 · obtain ⟨j,hj⟩:=h1 hi
   simp only [gf,h,hj,decide_eq_true hi]
   rfl
 · simp only [gf,h,h2 hi,decide_eq_false hi]
   rfl
section
variable {K:Nat->Prop}
variable {s0 s t:St} {b mp:Nat} {q:FoS} {x y:S} {e:bA}
theorem Ef {cW:List Int} (h:s.get mp=some (.map (nT cW))) {i:Int} (hi:i∉cW):Ee .i (Z (.map mp)) (I .i64 i) (B true) s=some (tt,s.set mp (.map (nT (cW++[i])))):=by
 obtain ⟨_,h2⟩:=oT i cW 0
 have hk:isKey .i (I .i64 i)=true:=rfl
 unfold Ee
 rw [if_pos hk]
 simp only [gV,h,h2 hi]
 simp [nT]
def QB (K:Nat->Prop) (s t:St):Prop:=t.wf/\s.size<=t.size/\∀ c,c<s.size->K c->t.get c=s.get c
theorem QB.wf {K:Nat->Prop} {s t:St} (h:QB K s t):t.wf:=h.1
theorem QB.trans {K:Nat->Prop} {a b c:St} (h:QB K a b) (k:Gr b c):QB K a c:=⟨k.1,Nat.le_trans h.2.1 k.2.1,fun x hx hK=>by rw [k.2.2 x (Nat.lt_of_lt_of_le hx h.2.1),h.2.2 x hx hK]⟩
structure HG (K:Nat->Prop) (s0 s:St) (b:Nat) (q:FoS) (x:S) (mp:Nat):Prop where
 gr:QB K s0 s
 hb:b<s0.size->¬ K b
 hm:mp<s0.size->¬ K mp
 st:s.get b=some (.cells true (cF x mp q))
 Bn:s.get mp=some (.map (nT q.cW))
 ins:xY s x q.l
 ow:∀ c,own x=some c->(c<s0.size->¬ K c)/\c≠b/\c≠mp
abbrev HF (s0 s:St) (b:Nat) (q:FoS) (x:S) (mp:Nat):Prop:=HG (fun _=>True) s0 s b q x mp
theorem HG.NA (h:HF s0 s b q x mp):Gr s0 s:=⟨h.gr.1,h.gr.2.1,fun c hc=>h.gr.2.2 c hc trivial⟩
theorem HG.bm (h:HG K s0 s b q x mp):b≠mp:=fun e=>by
 have h1:=h.st
 rw [e,h.Bn] at h1
 cases h1
theorem HG.kE (h:HG K s0 s b q x mp) (g:Gr s t):HG K s0 t b q x mp :=
 ⟨h.gr.trans g,h.hb,h.hm,g.get h.st h.gr.wf,g.get h.Bn h.gr.wf,h.ins.keep fun c hc=>g.2.2 c (h.ins.lt h.gr.wf hc),h.ow⟩
theorem HG.re (h:HG K s0 s b q x mp):HG (fun c=>c≠b/\c≠mp/\own x≠some c) s s b q x mp :=
 ⟨⟨h.gr.1,Nat.le_refl _,fun _ _ _=>rfl⟩,fun _ k=>k.1 rfl,fun _ k=>k.2.1 rfl,h.st,h.Bn,h.ins,fun c hc=>⟨fun _ k=>k.2.2 hc,(h.ow c hc).2⟩⟩
theorem zH (d:Nat) (h:HG K s0 s b q x mp) (hl:q.l.length<=8000) (id:Int):∃ k t,R (d+3) 134 [Z (.ptr b 0),I .i64 id] s=some (.eD [.s (.int .i64 ((k:Nat):Int)),.s (.bool (kU q.l id k))],t)/\Gr s t/\Found q.l id k:=by
 obtain ⟨k,t,e1,g,f⟩:=J3 d h.gr.wf h.ins hl id
 refine ⟨k,t,?_,g,f⟩
 rw [Gm]
 unfold f134
 have l0:ab (Z (.ptr b 0)) s.get=some (Z x):=ai h.st rfl
 generalize R (d+2)=r at *
 generalize ((k:Nat):Int)=K at *
 simp [l0,e1,ah,aQ,bI]
set_option maxHeartbeats 1000000 in
theorem tL (d:Nat) (h:HG K s0 s b q x mp) (hq:Ff q) (hl:q.l.length<=8000) (e:bA):∃ t,R (d+9) 110 [Z (.ptr b 0),AE e] s=some (I .i64 (bz q e),t)/\Gr s t:=by
 rw [F8]
 unfold f110
 obtain ⟨n,hn⟩:∃ n,n=s.size:=⟨_,rfl⟩
 obtain ⟨s1,hs1⟩:∃ s1,s1=s.push (.cells true (cE e)):=⟨_,rfl⟩
 have cX:aK s (ct (AE e))=some (Z (.ptr n 0),s1):=by rw [hs1,hn];rfl
 have g1:Gr s s1:=by rw [hs1];exact Gr.push h.gr.wf _
 have b1:s1.get n=some (.cells true (cE e)):=by rw [hs1,hn];exact St.aq _ _
 have l1:ab (Z (.ptr n 2)) s1.get=some (I .i64 e.i):=ai b1 rfl
 obtain ⟨k,s2,e2,g2,hF⟩:=zH (d+5) (h.kE g1) hl e.i
 have b2:s2.get n=some (.cells true (cE e)):=g2.get b1 g1.wf
 have l2:=dQ (g:=s2.get) b2
 obtain ⟨s3,e3,g3⟩:=sY d g2.wf e
 have b3:s3.get n=some (.cells true (cE e)):=g3.get b2 g2.wf
 have h3:=((h.kE g1).kE g2).kE g3
 have k3:ab (Z (.ptr n 0)) s3.get=some (I .i64 e.k):=ai b3 rfl
 have v3:ab (Z (.ptr n 1)) s3.get=some (I .i64 e.v):=ai b3 rfl
 have i3:ab (Z (.ptr n 2)) s3.get=some (I .i64 e.i):=ai b3 rfl
 have m3:ab (Z (.ptr b 1)) s3.get=some (Z (.map mp)):=ai h3.st rfl
 have w3:ab (Z (.ptr b 9)) s3.get=some (I .i64 q.w):=ai h3.st rfl
 have lk:=Ea h3.Bn e.i
 refine ⟨s3,?_,(g1.trans g2).trans g3⟩
 simp only [Nat.add_assoc,Nat.reduceAdd] at e2
 unfold bz
 cases hm:bT e with
 | false =>
   rw [hm] at e3
   generalize R (d+8)=r at *
   generalize ((k:Nat):Int)=K at *
   generalize kU q.l e.i k=hit at *
   simp [cX,l1,e2,ah,l2,e3]
 | true =>
   rw [hm] at e3
   obtain ⟨v0,v1,k0,k1,q1,q2,q3,q4⟩:=dY hm
   rcases (by omega:e.k=1\/e.k=2\/e.k=3\/e.k=4) with hk | hk | hk | hk
   · by_cases hi:e.i∈q.cW
     · rw [decide_eq_true hi] at lk
       generalize R (d+8)=r at *
       generalize ((k:Nat):Int)=K at *
       generalize kU q.l e.i k=hit at *
       simp [cX,l1,e2,ah,l2,e3,k3,hk,m3,i3,lk,hi]
     · rw [decide_eq_false hi] at lk
       generalize R (d+8)=r at *
       generalize ((k:Nat):Int)=K at *
       generalize kU q.l e.i k=hit at *
       by_cases hv:e.v<q.w
       · simp [cX,l1,e2,ah,l2,e3,k3,hk,m3,i3,lk,hi,v3,w3,hv]
       · simp [cX,l1,e2,ah,l2,e3,k3,hk,m3,i3,lk,hi,v3,w3,hv]
   · obtain ⟨i0,i1,_⟩:=q2 hk
     obtain ⟨_,hh⟩:=sG hF hq.up hq.Qm i0 i1
     rw [hh] at e2
     generalize R (d+8)=r at *
     generalize ((k:Nat):Int)=K at *
     cases ht:fZ q.l e.i with
     | false =>
       rw [ht] at e2
       simp [cX,l1,e2,ah,l2,e3,k3,hk,m3,i3,v3,w3]
     | true =>
       rw [ht] at e2
       by_cases hv:e.v<q.w
       · simp [cX,l1,e2,ah,l2,e3,k3,hk,m3,i3,v3,w3,hv]
       · simp [cX,l1,e2,ah,l2,e3,k3,hk,m3,i3,v3,w3,hv]
   · generalize R (d+8)=r at *
     generalize ((k:Nat):Int)=K at *
     generalize kU q.l e.i k=hit at *
     by_cases hv:e.v<q.w
     · simp [cX,l1,e2,ah,l2,e3,k3,hk,m3,i3,v3,w3,hv]
     · simp [cX,l1,e2,ah,l2,e3,k3,hk,m3,i3,v3,w3,hv]
   · generalize R (d+8)=r at *
     generalize ((k:Nat):Int)=K at *
     generalize kU q.l e.i k=hit at *
     by_cases hv:e.v<q.w
     · simp [cX,l1,e2,ah,l2,e3,k3,hk,m3,i3,v3,w3,hv]
     · simp [cX,l1,e2,ah,l2,e3,k3,hk,m3,i3,v3,w3,hv]
end
section
variable {K:Nat->Prop}
variable {s0 s t:St} {b mp:Nat} {q:FoS} {x y:S} {e:bA}
theorem C1 {σ:St} {q':FoS} {o:Nat} {x' z:S} (h:σ.get b=some (.cells true (cF x mp q))) (ho:o<10) (hz:aO (cF x mp q) o [z]=cF x' mp q'):aw 1 (Z (.ptr b o)) (Z z) σ=some (tt,σ.set b (.cells true (cF x' mp q'))):=by
 rw [aT h (by simpa [cF] using ho),hz]
set_option maxHeartbeats 2000000 in
theorem vr (d:Nat) (h:HG K s0 s b q x mp) (hq:Ff q) (hl:q.cW.length<=8000) (e:bA):∃ t y,R (d+10) 96 [Z (.ptr b 0),AE e] s=some (I .i64 (bz q e),t)/\HG K s0 t b (if bz q e=0 then cT q e else q) y mp:=by
 rw [LW]
 unfold f96
 have eC:q.l.length<=8000:=Nat.le_trans hq.len hl
 obtain ⟨n,hn⟩:∃ n,n=s.size:=⟨_,rfl⟩
 obtain ⟨s1,hs1⟩:∃ s1,s1=s.push (.cells true (cE e)):=⟨_,rfl⟩
 have cX:aK s (ct (AE e))=some (Z (.ptr n 0),s1):=by rw [hs1,hn];rfl
 have g1:Gr s s1:=by rw [hs1];exact Gr.push h.gr.wf _
 have b1:s1.get n=some (.cells true (cE e)):=by rw [hs1,hn];exact St.aq _ _
 have l1:=dQ (g:=s1.get) b1
 have h1:=h.kE g1
 obtain ⟨s2,e2,g2⟩:=tL d h1 hq eC e
 have h2:=h1.kE g2
 have b2:s2.get n=some (.cells true (cE e)):=g2.get b1 g1.wf
 by_cases ha:bz q e=0
 · rw [if_pos ha]
   rw [ha] at e2 ⊢
   have i2:ab (Z (.ptr n 2)) s2.get=some (I .i64 e.i):=ai b2 rfl
   obtain ⟨k,s3,e3,g3,hF⟩:=zH (d+6) h2 eC e.i
   have h3:=h2.kE g3
   have b3:s3.get n=some (.cells true (cE e)):=g3.get b2 g2.wf
   have V6:=g3.wf.lt b3
   have k3:ab (Z (.ptr n 0)) s3.get=some (I .i64 e.k):=ai b3 rfl
   have hm:bT e=true:=by
    unfold bz at ha
    by_cases hm:bT e=true
    · exact hm
    · rw [if_neg hm] at ha;cases ha
   obtain ⟨v0,v1,k0,k1,q1,q2,q3,q4⟩:=dY hm
   have JA:=h.gr.wf.lt h.st
   have Un:=h.gr.wf.lt h.Bn
   have QU:b≠n:=by omega
   have Mf:mp≠n:=by omega
   have YR:∀ c,own x=some c->c<n:=fun c hc=>by rw [hn];exact h.ins.lt h.gr.wf hc
   have Jz:=h.bm
   simp only [Nat.add_assoc,Nat.reduceAdd] at e3
   have fin:∀ (σ:St) (y:S) (q':FoS),HG K s0 σ b q' y mp->σ.get n=some (.cells true (cE e))->∃ τ,aw 1 (Z (.ptr b 9)) (I .i64 e.v) σ=some (tt,τ)/\ab (Z (.ptr n 1)) σ.get=some (I .i64 e.v)/\HG K s0 τ b ⟨q'.l,q'.cW,q'.ie,q'.v,e.v⟩ y mp:=fun σ y q' H hb=>by
    refine ⟨_,C1 (q':=⟨q'.l,q'.cW,q'.ie,q'.v,e.v⟩) (x':=y) H.st (by omega) rfl,ai hb rfl,?_⟩
    have Vs:=H.gr.wf.lt H.st
    exact ⟨⟨St.wf_set H.gr.wf Vs _,by simpa using H.gr.2.1,fun c hc hK=>by rw [St.aj _ _ (fun e'=>by subst e';exact H.hb hc hK)];exact H.gr.2.2 c hc hK⟩,H.hb,H.hm,St.ar _ _ _,by rw [St.aj _ _ (Ne.symm H.bm)];exact H.Bn,
     H.ins.keep fun c hc=>St.aj _ _ (H.ow c hc).2.1,H.ow⟩
   unfold cT
   rcases (by omega:e.k=1\/e.k=2\/e.k=3\/e.k=4) with hk | hk | hk | hk
   · -- a Nl comes
     rw [if_pos hk]
     obtain ⟨hx0,i0,i1,_⟩:=q1 hk
     have hni:e.i∉q.cW:=by
      unfold bz at ha
      rw [if_pos hm] at ha
      intro hin
      rw [if_pos ⟨hk,hin⟩] at ha
      cases ha
     obtain ⟨hkk,_⟩:=sG hF hq.up hq.Qm i0 i1
     subst hkk
     have m3:ab (Z (.ptr b 1)) s3.get=some (Z (.map mp)):=ai h3.st rfl
     have i3:ab (Z (.ptr n 2)) s3.get=some (I .i64 e.i):=ai b3 rfl
     have ms:=Ef h3.Bn hni
     obtain ⟨s4,hs4⟩:∃ s4,s4=s3.set mp (.map (nT (q.cW++[e.i]))):=⟨_,rfl⟩
     rw [← hs4] at ms
     have VT:=g3.wf.lt h3.Bn
     have o4:∀ c,c≠mp->s4.get c=s3.get c:=fun c hc=>by rw [hs4];exact St.aj _ _ hc
     have Nt:s4.wf:=by rw [hs4];exact St.wf_set g3.wf VT _
     have z4:s4.size=s3.size:=by rw [hs4];simp
     have b4:s4.get n=some (.cells true (cE e)):=by rw [o4 n (Ne.symm Mf)];exact b3
     have JK:s4.get b=some (.cells true (cF x mp q)):=by rw [o4 b Jz];exact h3.st
     have x4:ab (Z (.ptr b 0)) s4.get=some (Z x):=ai JK rfl
     have f2:ab (Z (.ptr n 2)) s4.get=some (I .i64 e.i):=ai b4 rfl
     have f3:ab (Z (.ptr n 3)) s4.get=some (I .i64 e.t):=ai b4 rfl
     have f4:ab (Z (.ptr n 4)) s4.get=some (I .i64 e.f):=ai b4 rfl
     have f5:ab (Z (.ptr n 5)) s4.get=some (I .i64 e.o):=ai b4 rfl
     have f6:ab (Z (.ptr n 6)) s4.get=some (I .u32 e.u):=ai b4 rfl
     have ag:aU (aE [.int .i64 0,.int .i64 0,.int .i64 0,.int .i64 0,.int .u32 0] [(0,1,I .i64 e.i),(1,1,I .i64 e.t),(2,1,I .i64 e.f),(3,1,I .i64 e.o),(4,1,I .u32 e.u)])=some (AI (wR e)):=rfl
     obtain ⟨s5,hs5⟩:∃ s5,s5=s4.push (.cells true (cI (wR e))):=⟨_,rfl⟩
     have MU:aK s4 (aR 1 (aE [.int .i64 0,.int .i64 0,.int .i64 0,.int .i64 0,.int .u32 0] [(0,5,AI (wR e))]))=some (Z (.sl s4.size 0 1 (.known 1)),s5):=by rw [hs5];rfl
     have g5:Gr s4 s5:=by rw [hs5];exact Gr.push Nt _
     have j5:s5.get s4.size=some (.cells true (cI (wR e))):=by rw [hs5];exact St.aq _ _
     have P0:xY s4 x q.l:=h3.ins.keep fun c hc=>o4 c (h.ow c hc).2.2
     have WD:xY s5 x q.l:=P0.keep fun c hc=>g5.2.2 c (P0.lt Nt hc)
     obtain ⟨y,s6,e6,N6⟩:=Mt (d+8) g5.wf WD eC (HU q.l e.i) j5 (fun c hc=>by have:=P0.lt Nt hc;omega)
     have z5:s4.size<s5.size:=by rw [hs5];simp
     have xb:own x≠some b:=fun hc=>(h.ow b hc).2.1 rfl
     have xm:own x≠some mp:=fun hc=>(h.ow mp hc).2.2 rfl
     have xn:own x≠some n:=fun hc=>by have:=YR n hc;omega
     have zG:s6.get b=some (.cells true (cF x mp q)):=by rw [N6.old b (by omega) xb,g5.2.2 b (by omega)];exact JK
     have W8:s6.get mp=some (.map (nT (q.cW++[e.i]))):=by rw [N6.old mp (by omega) xm,g5.2.2 mp (by omega),hs4];exact St.ar _ _ _
     have b6:s6.get n=some (.cells true (cE e)):=by rw [N6.old n (by omega) xn,g5.2.2 n (by omega)];exact b4
     obtain ⟨Q,hQ⟩:∃ Q:FoS,Q=⟨nO q.l (wR e),q.cW++[e.i],q.ie,q.v,q.w⟩:=⟨_,rfl⟩
     have sS:=C1 (q':=Q) (x':=y) (z:=y) zG (show 0<10 by omega) (by rw [hQ];rfl)
     obtain ⟨s7,fI⟩:∃ s7,s7=s6.set b (.cells true (cF y mp Q)):=⟨_,rfl⟩
     rw [← fI] at sS
     have yo:∀ c,own y=some c->(c<s0.size->¬ K c)/\c≠b/\c≠mp:=fun c hc=>by
      rcases N6.new c hc with hx | hx
      · exact h.ow c hx
      · have:=h.gr.2.1
        exact ⟨fun h'=>absurd h' (by omega),by omega,by omega⟩
     have H7:HG K s0 s7 b Q y mp:=by
      have QT:=N6.wf.lt zG
      refine ⟨⟨by rw [fI];exact St.wf_set N6.wf QT _,?_,fun c hc hK => ?_⟩,h.hb,h.hm,by rw [fI];exact St.ar _ _ _,?_,?_,yo⟩
      · rw [fI]
        have:=h.gr.2.1;have:=g1.2.1;have:=g2.2.1;have:=g3.2.1;have:=N6.le
        simp only [St.size_set];omega
      · have h01:=h.gr.2.1
        rw [fI,St.aj _ _ (fun e'=>by subst e';exact h.hb hc hK),N6.old c (by omega) (fun gY=>(h.ow c gY).1 hc hK),g5.2.2 c (by omega),o4 c (fun e'=>by subst e';exact h.hm hc hK)]
        exact h3.gr.2.2 c hc hK
      · rw [fI,St.aj _ _ (Ne.symm Jz),W8,hQ]
      · rw [hQ]
        exact N6.ins.keep fun c hc=>by rw [fI];exact St.aj _ _ (yo c hc).2.1
     have b7:s7.get n=some (.cells true (cE e)):=by rw [fI,St.aj _ _ (Ne.symm QU)];exact b6
     obtain ⟨s8,Af,P7,H8⟩:=fin s7 y Q H7 b7
     rw [hQ] at H8
     refine ⟨s8,y,?_,H8⟩
     clear fin
     simp only [Nat.add_assoc,Nat.reduceAdd] at e6
     generalize R (d+9)=r at *
     generalize ((kJ q.l e.i:Nat):Int)=K at *
     generalize kU q.l e.i (kJ q.l e.i)=hit at *
     simp [cX,l1,e2,i2,e3,ah,k3,hk,m3,i3,ms,x4,f2,f3,f4,f5,f6,ag,MU,e6,sS,P7,Af,kF]
   · -- a Nl goes
     rw [if_neg (by omega),if_pos hk]
     obtain ⟨i0,i1,_⟩:=q2 hk
     obtain ⟨hkk,aai⟩:=sG hF hq.up hq.Qm i0 i1
     have SF:fZ q.l e.i=true:=by
      unfold bz at ha
      rw [if_pos hm,if_neg (by omega)] at ha
      cases ht:fZ q.l e.i with
      | true=>rfl
      | false=>rw [if_pos ⟨hk,ht⟩] at ha;cases ha
     subst hkk
     have eU:=HV hq.up SF
     have x3:ab (Z (.ptr b 0)) s3.get=some (Z x):=ai h3.st rfl
     have w1:IntKind.i64.wrap (((kJ q.l e.i:Nat):Int)+1)=((kJ q.l e.i+1:Nat):Int):=by rw [aB _ (by omega) (by omega)];omega
     obtain ⟨y,s6,e6,N6⟩:=Ka (d+8) g3.wf h3.ins eC eU
     have xb:own x≠some b:=fun hc=>(h.ow b hc).2.1 rfl
     have xm:own x≠some mp:=fun hc=>(h.ow mp hc).2.2 rfl
     have xn:own x≠some n:=fun hc=>by have:=YR n hc;omega
     have QS:=g3.wf.lt h3.st
     have Q8:=g3.wf.lt h3.Bn
     have zG:s6.get b=some (.cells true (cF x mp q)):=by rw [N6.old b QS xb];exact h3.st
     have W8:s6.get mp=some (.map (nT q.cW)):=by rw [N6.old mp Q8 xm];exact h3.Bn
     have b6:s6.get n=some (.cells true (cE e)):=by rw [N6.old n V6 xn];exact b3
     obtain ⟨Q,hQ⟩:∃ Q:FoS,Q=⟨wE q.l e.i,q.cW,q.ie,q.v,q.w⟩:=⟨_,rfl⟩
     have sS:=C1 (q':=Q) (x':=y) (z:=y) zG (show 0<10 by omega) (by rw [hQ];rfl)
     obtain ⟨s7,fI⟩:∃ s7,s7=s6.set b (.cells true (cF y mp Q)):=⟨_,rfl⟩
     rw [← fI] at sS
     have yo:∀ c,own y=some c->(c<s0.size->¬ K c)/\c≠b/\c≠mp:=fun c hc=>by
      rcases N6.new c hc with hx | hx
      · exact h.ow c hx
      · have:=h3.gr.2.1
        exact ⟨fun h'=>absurd h' (by omega),by omega,by omega⟩
     have H7:HG K s0 s7 b Q y mp:=by
      have QT:=N6.wf.lt zG
      refine ⟨⟨by rw [fI];exact St.wf_set N6.wf QT _,?_,fun c hc hK => ?_⟩,h.hb,h.hm,by rw [fI];exact St.ar _ _ _,?_,?_,yo⟩
      · rw [fI]
        have:=h3.gr.2.1;have:=N6.le
        simp only [St.size_set];omega
      · have h03:=h3.gr.2.1
        rw [fI,St.aj _ _ (fun e'=>by subst e';exact h.hb hc hK),N6.old c (by omega) (fun gY=>(h.ow c gY).1 hc hK)]
        exact h3.gr.2.2 c hc hK
      · rw [fI,St.aj _ _ (Ne.symm Jz),W8,hQ]
      · rw [hQ]
        exact N6.ins.keep fun c hc=>by rw [fI];exact St.aj _ _ (yo c hc).2.1
     have b7:s7.get n=some (.cells true (cE e)):=by rw [fI,St.aj _ _ (Ne.symm QU)];exact b6
     obtain ⟨s8,Af,P7,H8⟩:=fin s7 y Q H7 b7
     rw [hQ] at H8
     refine ⟨s8,y,?_,H8⟩
     clear fin
     simp only [Nat.add_assoc,Nat.reduceAdd] at e6
     generalize R (d+9)=r at *
     generalize ((kJ q.l e.i+1:Nat):Int)=K1 at *
     generalize ((kJ q.l e.i:Nat):Int)=K at *
     generalize kU q.l e.i (kJ q.l e.i)=hit at *
     simp [cX,l1,e2,i2,e3,ah,k3,hk,x3,w1,e6,sS,P7,Af,kF]
   · -- a view
     rw [if_neg (by omega),if_neg (by omega),if_pos hk]
     have v3:ab (Z (.ptr n 1)) s3.get=some (I .i64 e.v):=ai b3 rfl
     obtain ⟨Q,hQ⟩:∃ Q:FoS,Q=⟨q.l,q.cW,q.ie,e.v,q.w⟩:=⟨_,rfl⟩
     have sS:=C1 (q':=Q) (x':=x) (z := .int .i64 e.v) h3.st (show 8<10 by omega) (by rw [hQ];rfl)
     obtain ⟨s7,fI⟩:∃ s7,s7=s3.set b (.cells true (cF x mp Q)):=⟨_,rfl⟩
     rw [← fI] at sS
     have H7:HG K s0 s7 b Q x mp:=by
      have QS:=g3.wf.lt h3.st
      refine ⟨⟨by rw [fI];exact St.wf_set g3.wf QS _,by rw [fI];simpa using h3.gr.2.1,fun c hc hK=>by rw [fI,St.aj _ _ (fun e'=>by subst e';exact h.hb hc hK)];exact h3.gr.2.2 c hc hK⟩,h.hb,h.hm,by rw [fI];exact St.ar _ _ _,?_,?_,h.ow⟩
      · rw [fI,St.aj _ _ (Ne.symm Jz),h3.Bn,hQ]
      · rw [hQ]
        exact h3.ins.keep fun c hc=>by rw [fI];exact St.aj _ _ (h.ow c hc).2.1
     have b7:s7.get n=some (.cells true (cE e)):=by rw [fI,St.aj _ _ (Ne.symm QU)];exact b3
     obtain ⟨s8,Af,P7,H8⟩:=fin s7 x Q H7 b7
     rw [hQ] at H8
     refine ⟨s8,x,?_,H8⟩
     clear fin
     generalize R (d+9)=r at *
     generalize ((k:Nat):Int)=K at *
     generalize kU q.l e.i k=hit at *
     simp [cX,l1,e2,i2,e3,ah,k3,hk,v3,sS,P7,Af,kF]
   · -- a ie
     rw [if_neg (by omega),if_neg (by omega),if_neg (by omega)]
     have x3:ab (Z (.ptr n 7)) s3.get=some (Z (.str e.x)):=ai b3 rfl
     have hxl:=pF hm
     obtain ⟨s4,e4,g4⟩:=vy (d+2) g3.wf (l:=e.x) (by omega)
     have h4:=h3.kE g4
     have b4:s4.get n=some (.cells true (cE e)):=g4.get b3 g3.wf
     obtain ⟨Q,hQ⟩:∃ Q:FoS,Q=⟨q.l,q.cW,(fB e.x).1,q.v,q.w⟩:=⟨_,rfl⟩
     obtain ⟨p,hp⟩:∃ p,p=(fB e.x).1:=⟨_,rfl⟩
     rw [← hp] at e4 hQ
     have sS:aw 6 (Z (.ptr b 2)) (AP p) s4=some (tt,s4.set b (.cells true (cF x mp Q))):=by
      simp only [aw,h4.st]
      rw [if_pos ⟨rfl,by simp [cF]⟩,hQ]
      rfl
     obtain ⟨s7,fI⟩:∃ s7,s7=s4.set b (.cells true (cF x mp Q)):=⟨_,rfl⟩
     rw [← fI] at sS
     have H7:HG K s0 s7 b Q x mp:=by
      have QS:=g4.wf.lt h4.st
      refine ⟨⟨by rw [fI];exact St.wf_set g4.wf QS _,by rw [fI];simpa using h4.gr.2.1,fun c hc hK=>by rw [fI,St.aj _ _ (fun e'=>by subst e';exact h.hb hc hK)];exact h4.gr.2.2 c hc hK⟩,h.hb,h.hm,by rw [fI];exact St.ar _ _ _,?_,?_,h.ow⟩
      · rw [fI,St.aj _ _ (Ne.symm Jz),h4.Bn,hQ]
      · rw [hQ]
        exact h4.ins.keep fun c hc=>by rw [fI];exact St.aj _ _ (h.ow c hc).2.1
     have b7:s7.get n=some (.cells true (cE e)):=by rw [fI,St.aj _ _ (Ne.symm QU)];exact b4
     obtain ⟨s8,Af,P7,H8⟩:=fin s7 x Q H7 b7
     rw [hQ,hp] at H8
     refine ⟨s8,x,?_,H8⟩
     clear fin
     simp only [Nat.add_assoc,Nat.reduceAdd] at e4
     generalize R (d+9)=r at *
     generalize ((k:Nat):Int)=K at *
     generalize kU q.l e.i k=hit at *
     simp [cX,l1,e2,i2,e3,ah,k3,hk,x3,e4,sS,P7,Af,kF]
 · rw [if_neg ha]
   refine ⟨s2,x,?_,h2⟩
   generalize R (d+9)=r at *
   simp [cX,l1,e2,ha]
end
section
variable {s0 s t:St} {b mp:Nat} {q:FoS} {x y a:S} {l:List dv}
theorem uM (d:Nat) (wf:s.wf):∃ b mp t,R (d+2) 41 [] s=some (Z (.ptr b 0),t)/\HF s t b kT .az mp:=by
 rw [Lq]
 unfold f41
 obtain ⟨s1,hs1⟩:∃ s1,s1=s.push (.map []):=⟨_,rfl⟩
 have cX:aK s MJ=some (Z (.map s.size),s1):=by rw [hs1];rfl
 have g1:Gr s s1:=by rw [hs1];exact Gr.push wf _
 have m1:s1.get s.size=some (.map []):=by rw [hs1];exact St.aq _ _
 obtain ⟨s2,e2,g2⟩:=pT d g1.wf
 have m2:=g2.get m1 g1.wf
 have hz:=g2.wf.lt m2
 obtain ⟨s3,mw⟩:∃ s3,s3=s2.push (.cells true (cF .az s.size kT)):=⟨_,rfl⟩
 have ag:aU (aE [.az,.mz,.int .i64 0,.int .i64 0,.int .i64 0,.int .i64 0,.int .i64 0,.int .i64 0,.int .i64 0,.int .i64 0] [(1,1,Z (.map s.size)),(2,6,AP kH)])=some (.v (.agg (cF .az s.size kT))):=rfl
 have Br:aK s2 (ct (.v (.agg (cF .az s.size kT))))=some (Z (.ptr s2.size 0),s3):=by rw [mw];rfl
 have g3:Gr s2 s3:=by rw [mw];exact Gr.push g2.wf _
 refine ⟨s2.size,s.size,s3,?_,⟨((g1.trans g2).trans g3).1,((g1.trans g2).trans g3).2.1,fun c hc _=>((g1.trans g2).trans g3).2.2 c hc⟩,fun h=>absurd h (by have:=(g1.trans g2).2.1;omega),fun h=>absurd h (by omega),by rw [mw];exact St.aq _ _,g3.get m2 g2.wf,.inl ⟨rfl,rfl⟩,fun c hc=>by cases hc⟩
 generalize R (d+1)=r at *
 simp [cX,e2,ag,Br]
theorem Ds (d:Nat) (wf:s.wf) (h:xY s x l) (hl:l.length<=8000):∃ y t,R (d+1) 97 [Z x] s=some (Z y,t)/\Fr 5 s t y l.length (cells cI l):=by
 rw [LX]
 unfold f97
 have Rc:=h.rd
 have hlt:∀ c,own x=some c->c<s.size:=fun c hc=>h.lt wf hc
 have mv:=dJ (e:=5) fP l
 rcases h with ⟨rfl,rfl⟩ | ⟨c,vs,rfl,hb,ht⟩
 · refine ⟨.az,s,?_,Fr.nil 5 wf⟩
   have:iC .l (Z .az) (Z .az)=some (B true):=rfl
   simp [this]
 · have f0:=Fr.lit 5 wf (n:=0) (vs:=[]) rfl
   obtain ⟨y,t,e,f,_⟩:=f0.append (by_:=40) (by omega) (Rc.gr hlt f0.gr).src mv (by omega)
   have nw:aK s (aR 0 (aE [] []))=some (Z (.sl s.size 0 0 (.known 0)),s.push (.cells true [])):=rfl
   have q1:iC .l (Z (.sl c 0 l.length (.grown 5))) (Z .az)=some (B false):=rfl
   simp only [Nat.zero_add,List.nil_append] at f
   refine ⟨y,t,?_,f⟩
   simp [q1,nw,e]
theorem pf (d:Nat) {K:Nat->Prop} (h:HG K s0 s b q x mp) (hl:q.l.length<=8000):∃ y t,R (d+2) 48 [Z (.ptr b 0)] s=some (Z y,t)/\Fr 5 s t y q.l.length (cells cI q.l):=by
 obtain ⟨y,t,e,f⟩:=Ds d h.gr.wf h.ins hl
 refine ⟨y,t,?_,f⟩
 rw [Lu]
 unfold f48
 have l0:ab (Z (.ptr b 0)) s.get=some (Z x):=ai h.st rfl
 generalize R (d+1)=r at *
 simp [l0,e]
theorem vF {g:Mem} (h:g b=some (.cells true (cF x mp q))):aG 6 (Z (.ptr b 2)) g=some (AP q.ie):=by
 simp only [aG,h]
 rw [if_pos (by simp [cF])]
 rfl
def vC (r:Int×FoS) (y:S):T:=if r.1=0 then .eD [.s y,.agg (cP r.2.ie),.s (.int .i64 r.2.v),.s (.int .i64 0)] else .eD [.s .az,.agg (cP cU),.s (.int .i64 0),.s (.int .i64 r.1)]
set_option maxHeartbeats 1000000 in
theorem sF (d:Nat) (wf:s.wf) {es:List bA} (ha:RE s a es) (YJ:∀ c,own a=some c->c<s.size) (hl:es.length<=8000):∃ y t,R (d+11) 126 [Z a] s=some (vC (aZ kT es) y,t)/\Gr s t ∧
 ((aZ kT es).1=0->Fr 5 s t y (aZ kT es).2.l.length (cells cI (aZ kT es).2.l)):=by
 rw [Gh]
 unfold f126
 obtain ⟨rp,Ut⟩:∃ rp,rp=s.size:=⟨_,rfl⟩
 obtain ⟨s1,hs1⟩:∃ s1,s1=s.push (.cells true (cP cU)):=⟨_,rfl⟩
 have cX:aK s (ba [.int .i64 0,.int .i64 0,.int .i64 0,.int .i64 0,.int .i64 0,.int .i64 0])=some (Z (.ptr rp 0),s1):=by rw [hs1,Ut];rfl
 have g1:Gr s s1:=by rw [hs1];exact Gr.push wf _
 have r1:s1.get rp=some (.cells true (cP cU)):=by rw [hs1,Ut];exact St.aq _ _
 have z1:rp<s1.size:=g1.wf.lt r1
 obtain ⟨b,mp0,s2,e2,h2⟩:=uM (d+8) g1.wf
 simp only [Nat.add_assoc,Nat.reduceAdd] at e2
 have ll:=ha.lens
 obtain ⟨j,τ,lp,hj⟩:=aW (f:=nA (R (d+10)) 8192)
  (fun q v u=>∃ (k:Nat) (qs:FoS) (x:S) (mp:Nat),q+k=es.length/\v=[Z (.ptr rp 0),Z (.ptr b 0),Z a,I .i64 ((es.length:Nat):Int),I .i64 ((k:Nat):Int)]/\HF s1 u b qs x mp/\Ff qs/\qs.cW.length<=k/\aZ qs (es.drop k)=aZ kT es)
  (fun j u=>(∃ (qs:FoS) (x:S) (mp:Nat),j = .exit 0 [Z (.ptr rp 0),Z (.ptr b 0)]/\HF s1 u b qs x mp/\qs.l.length<=8000/\aZ kT es=(0,qs))\/(j = .ret (vC (aZ kT es) .az)/\(aZ kT es).1≠0/\Gr s u)) (by
  rintro q v u ⟨k,qs,x,mp,hk,rfl,H,hok,cM,nM⟩
  by_cases eU:k<es.length
  · have hc:es[k]? = some es[k]:=List.getElem?_eq_getElem eU
    obtain ⟨e,he⟩:∃ e,e=es[k]:=⟨_,rfl⟩
    rw [← he] at hc
    have mE:es.drop k=e::es.drop (k+1):=by rw [List.drop_eq_getElem_cons eU,he]
    have hau:RE u a es:=(ha.gr YJ g1).gr (fun c hc=>Nat.lt_of_lt_of_le (YJ c hc) g1.2.1) H.NA
    obtain ⟨p,ix,ld⟩:=hau.X4 (n:=((k:Nat):Int)) rfl hc
    have c0:((k:Nat):Int)<((es.length:Nat):Int):=by omega
    have w1:IntKind.i64.wrap ((k:Int)+1)=((k+1:Nat):Int):=by rw [aB _ (by omega) (by omega)];omega
    obtain ⟨u1,Hq⟩:∃ u1,u1=u.push (.cells true (cE bC)):=⟨_,rfl⟩
    have Br:aK u (ba [.int .i64 0,.int .i64 0,.int .i64 0,.int .i64 0,.int .i64 0,.int .i64 0,.int .u32 0,.str []])=some (Z (.ptr u.size 0),u1):=by rw [Hq];rfl
    have b1:u1.get u.size=some (.cells true (cE bC)):=by rw [Hq];exact St.aq _ _
    have L3:Gr u u1:=by rw [Hq];exact Gr.push H.NA.wf _
    obtain ⟨u2,yN⟩:∃ u2,u2=u1.set u.size (.cells true (cE e)):=⟨_,rfl⟩
    have xV:aw 8 (Z (.ptr u.size 0)) (AE e) u1=some (tt,u2):=by rw [yN];exact j6 b1 rfl
    have RU:Gr u u2:=by
     rw [yN]
     exact ⟨St.wf_set L3.wf (L3.wf.lt b1) _,by simpa using L3.2.1,fun c hc=>by rw [St.aj _ _ (by omega)];exact L3.2.2 c hc⟩
    have l2:aG 8 (Z (.ptr u.size 0)) u2.get=some (AE e):=dQ (by rw [yN];exact St.ar _ _ _)
    obtain ⟨u3,y,e3,H3⟩:=vr d (H.kE RU) hok (by omega) e
    rw [mE] at nM
    have ui:(if bz qs e=0 then aZ (cT qs e) (es.drop (k+1)) else (bz qs e,qs))=aZ kT es:=nM
    by_cases hz:bz qs e=0
    · left
      rw [if_pos hz] at H3 ui
      rw [hz] at e3
      refine ⟨[Z (.ptr rp 0),Z (.ptr b 0),Z a,I .i64 ((es.length:Nat):Int),I .i64 ((k+1:Nat):Int)],u3,q-1,?_,by omega,k+1,cT qs e,y,mp,by omega,rfl,H3,CM hok hz,by have:=vq (q:=qs) (e:=e);omega,ui⟩
      unfold nA
      clear nM ui mE
      generalize R (d+10)=r at *
      generalize ((k+1:Nat):Int)=K1 at *
      generalize ((k:Nat):Int)=K at *
      generalize ((es.length:Nat):Int)=LL at *
      generalize u.size=us at *
      simp [c0,ix,ld,Br,xV,kF,l2,e3,w1]
    · right
      rw [if_neg hz] at H3 ui
      have r3:u3.get rp=some (.cells true (cP cU)):=by rw [H3.NA.2.2 rp z1];exact r1
      have sr:aw 6 (Z (.ptr rp 0)) (AP cU) u3=some (tt,u3.set rp (.cells true (cP cU))):=lH r3 rfl
      obtain ⟨u4,JD⟩:∃ u4,u4=u3.set rp (.cells true (cP cU)):=⟨_,rfl⟩
      rw [← JD] at sr
      have lr:aG 6 (Z (.ptr rp 0)) u4.get=some (AP cU):=qd (by rw [JD];exact St.ar _ _ _)
      have Jy:Gr s u4:=by
       rw [JD]
       have Uf:=g1.trans H3.NA
       exact ⟨St.wf_set Uf.wf (by have:=H3.NA.2.1;omega) _,by simpa using Uf.2.1,fun c hc=>by rw [St.aj _ _ (by omega)];exact Uf.2.2 c hc⟩
      refine ⟨.ret (vC (aZ kT es) .az),u4,?_,(fun v hv=>by cases hv),.inr ⟨rfl,by rw [← ui];exact hz,Jy⟩⟩
      have hres:vC (aZ kT es) .az = .eD [.s .az,.agg (cP cU),.s (.int .i64 0),.s (.int .i64 (bz qs e))]:=by
       rw [← ui]
       exact if_neg hz
      rw [hres]
      unfold nA
      clear nM ui mE hres
      generalize R (d+10)=r at *
      generalize ((k+1:Nat):Int)=K1 at *
      generalize ((k:Nat):Int)=K at *
      generalize ((es.length:Nat):Int)=LL at *
      generalize u.size=us at *
      generalize bz qs e=C at *
      simp [c0,ix,ld,Br,xV,kF,l2,e3,hz,JV,sr,lr,rC,rT,aQ,bI]
  · right
    have Ma:k=es.length:=by omega
    have c0:¬ ((k:Nat):Int)<((es.length:Nat):Int):=by omega
    rw [List.drop_eq_nil_of_le (by omega)] at nM
    refine ⟨.exit 0 [Z (.ptr rp 0),Z (.ptr b 0)],u,?_,(fun v hv=>by cases hv),.inl ⟨qs,x,mp,rfl,H,by have:=hok.len;omega,nM.symm⟩⟩
    unfold nA
    simp [c0]) 8192 es.length [Z (.ptr rp 0),Z (.ptr b 0),Z a,I .i64 ((es.length:Nat):Int),I .i64 0] s2
  ⟨0,kT,.az,mp0,by omega,rfl,h2,AO,Nat.le_refl _,by rw [List.drop_zero]⟩ (by omega)
 rcases hj with ⟨qs,x,mp,rfl,H,xR,nM⟩ | ⟨rfl,hne,g⟩
 · obtain ⟨y,t,e4,f4⟩:=pf (d+8) H xR
   simp only [Nat.add_assoc,Nat.reduceAdd] at e4
   have H4:=H.kE f4.gr
   have a1:=vF H.st
   have a2:=vF H4.st
   have v1:ab (Z (.ptr b 8)) τ.get=some (I .i64 qs.v):=ai H.st rfl
   have v2:ab (Z (.ptr b 8)) t.get=some (I .i64 qs.v):=ai H4.st rfl
   have r4:t.get rp=some (.cells true (cP cU)):=by rw [H4.NA.2.2 rp z1];exact r1
   have sr:aw 6 (Z (.ptr rp 0)) (AP qs.ie) t=some (tt,t.set rp (.cells true (cP qs.ie))):=lH r4 rfl
   obtain ⟨u4,JD⟩:∃ u4,u4=t.set rp (.cells true (cP qs.ie)):=⟨_,rfl⟩
   rw [← JD] at sr
   have QV:b≠rp:=fun e'=>H.hb (by omega) trivial
   have v3:ab (Z (.ptr b 8)) u4.get=some (I .i64 qs.v):=ai (by rw [JD,St.aj _ _ QV];exact H4.st) rfl
   have lr:aG 6 (Z (.ptr rp 0)) u4.get=some (AP qs.ie):=qd (by rw [JD];exact St.ar _ _ _)
   have QO:=g1.trans H4.NA
   have Us:=QO.wf.lt r4
   have Jy:Gr s u4:=by
    rw [JD]
    exact ⟨St.wf_set QO.wf Us _,by simpa using QO.2.1,fun c hc=>by rw [St.aj _ _ (by omega)];exact QO.2.2 c hc⟩
   rw [nM]
   have hres:vC ((0:Int),qs) y = .eD [.s y,.agg (cP qs.ie),.s (.int .i64 qs.v),.s (.int .i64 0)]:=rfl
   refine ⟨y,u4,?_,Jy,fun _ => ?_⟩
   · rw [hres]
     clear nM hres
     generalize R (d+10)=r at *
     generalize ((es.length:Nat):Int)=LL at *
     simp [cX,e2,ll,lp,e4,a1,a2,v1,v2,v3,sr,kF,lr,rC,rT,aQ,bI]
   · have pW:rp<τ.size:=by have:=H.gr.2.1;omega
     refine ⟨Jy,f4.ow.keep fun c hc => ?_,fun c hc => ?_⟩
     · have:=(f4.new c hc).1
       rw [JD,St.aj _ _ (by omega)]
     · have:=f4.new c hc
       have:=H.gr.2.1
       have:=g1.2.1
       rw [JD]
       simp only [St.size_set]
       omega
 · refine ⟨.az,τ,?_,g,fun h=>(hne h).elim⟩
   generalize vC (aZ kT es) .az=RF at *
   generalize R (d+10)=r at *
   generalize ((es.length:Nat):Int)=LL at *
   simp [cX,e2,ll,lp]
end
structure oH where
 p:Nat
 i:Nat
 m:Nat
 b:Nat
 mp:Nat
 lx:S
 ex:S
 qx:S
structure Rt (ρ:Nat->Nat) (B:oH) (fs:List Fl):Prop where
 p:ρ B.p=1
 b:ρ B.b=2
 mp:ρ B.mp=3
 lx:∀ c,own B.lx=some c->ρ c=4
 ex:∀ c,own B.ex=some c->ρ c=5
 qx:∀ c,own B.qx=some c->ρ c=6
 i:ρ B.i=0
 m:ρ B.m=0
 fb:∀ f∈fs,ρ f.fb=0
 fx:∀ f∈fs,∀ c,own f.x=some c->ρ c=0
structure aY (ρ:Nat->Nat) (s:St) (B:oH) (room:Int) (fs:List Fl) (l:List bA) (q:FoS) (sure:Nat):Prop where
 dk:Dk s B.i B.m room fs
 st:s.get B.p=some (.cells true [.ptr B.i 0,B.lx,B.ex,.ptr B.b 0,.int .i64 sure])
 le:Ow 8 s B.lx l.length (cells cE l)
 en:Ow 1 s B.ex l.length ((mC l).map (S.int .i64))
 hf:HG (fun c=>c≠B.b/\c≠B.mp/\own B.qx≠some c) s s B.b q B.qx B.mp
 ro:Rt ρ B fs
 fo:aZ kT l=(0,q)
 wf:∀ e∈l,rK e
 Co:l.length<=2000
 su:sure<=l.length
section
variable {ρ ρ':Nat->Nat} {s t:St} {B:oH} {room:Int} {fs:List Fl} {l:List bA} {q:FoS} {sure:Nat} {i m:Nat}
theorem Dk.pX (h:Dk s i m room fs) (wf:t.wf) (hz:s.size<=t.size) (hi:t.get i=s.get i) (hm:t.get m=s.get m) (hf:∀ f∈fs,t.get f.fb=s.get f.fb/\∀ c,own f.x=some c->t.get c=s.get c):Dk t i m room fs:=by
 refine ⟨wf,by rw [hi];exact h.ri,by rw [hm];exact h.mp,fun k f hk => ?_,h.ap,h.nm⟩
 obtain ⟨a1,a2,a3⟩:=h.fl k f hk
 obtain ⟨b1,b2⟩:=hf f (List.mem_of_getElem? hk)
 exact ⟨by rw [b1];exact a1,a2.keep b2,a3⟩
theorem Dk.zX (h:Dk s i m room fs):i<s.size/\m<s.size/\∀ f∈fs,f.fb<s.size/\∀ c,own f.x=some c->c<s.size:=by
 refine ⟨h.wf.lt h.ri,h.wf.lt h.mp,fun f hf => ?_⟩
 obtain ⟨k,hk⟩:=List.getElem?_of_mem hf
 obtain ⟨a1,a2,_⟩:=h.fl k f hk
 exact ⟨h.wf.lt a1,fun c hc=>a2.lt h.wf hc⟩
theorem HG.pX {K K':Nat->Prop} {s0:St} {b mp:Nat} {x:S} (h:HG K s0 s b q x mp) (wf:t.wf) (hb:t.get b=s.get b) (hm:t.get mp=s.get mp) (hx:∀ c,own x=some c->t.get c=s.get c) :
 HG (fun c=>c≠b/\c≠mp/\own x≠some c) t t b q x mp :=
 ⟨⟨wf,Nat.le_refl _,fun _ _ _=>rfl⟩,fun _ k=>k.1 rfl,fun _ k=>k.2.1 rfl,by rw [hb];exact h.st,by rw [hm];exact h.Bn,h.ins.keep hx,fun c hc=>⟨fun _ k=>k.2.2 hc,(h.ow c hc).2⟩⟩
theorem aY.qA (h:aY ρ s B room fs l q sure):s.wf:=h.dk.wf
theorem aY.zX (h:aY ρ s B room fs l q sure):B.p<s.size/\B.b<s.size/\B.mp<s.size/\(∀ c,own B.lx=some c->c<s.size)/\(∀ c,own B.ex=some c->c<s.size)/\(∀ c,own B.qx=some c->c<s.size) :=
 ⟨h.qA.lt h.st,h.qA.lt h.hf.st,h.qA.lt h.hf.Bn,fun c hc=>h.le.lt h.qA hc,fun c hc=>h.en.lt h.qA hc,fun c hc=>h.hf.ins.lt h.qA hc⟩
theorem aY.keep (h:aY ρ s B room fs l q sure) (wf:t.wf) (hz:s.size<=t.size) (hk:∀ c,c<s.size->ρ c<7->t.get c=s.get c):aY ρ t B room fs l q sure:=by
 obtain ⟨p1,p2,p3,p4,p5,p6⟩:=h.zX
 obtain ⟨d1,d2,d3⟩:=h.dk.zX
 have r:=h.ro
 have k:=fun c hc (n:Nat) (e:ρ c=n) (hn:n<7)=>hk c hc (by omega)
 exact ⟨h.dk.pX wf hz (k _ d1 0 r.i (by omega)) (k _ d2 0 r.m (by omega)) (fun f hf=>⟨k _ (d3 f hf).1 0 (r.fb f hf) (by omega),fun c hc=>k _ ((d3 f hf).2 c hc) 0 (r.fx f hf c hc) (by omega)⟩),
  by rw [k _ p1 1 r.p (by omega)];exact h.st,h.le.keep fun c hc=>k _ (p4 c hc) 4 (r.lx c hc) (by omega),h.en.keep fun c hc=>k _ (p5 c hc) 5 (r.ex c hc) (by omega),
  h.hf.pX (K':=fun _=>True) wf (k _ p2 2 r.b (by omega)) (k _ p3 3 r.mp (by omega)) (fun c hc=>k _ (p6 c hc) 6 (r.qx c hc) (by omega)),r,h.fo,h.wf,h.Co,h.su⟩
theorem aY.gr (h:aY ρ s B room fs l q sure) (g:Gr s t):aY ρ t B room fs l q sure:=h.keep g.1 g.2.1 fun c hc _=>g.2.2 c hc
theorem aY.XC (h:aY ρ s B room fs l q sure) (hρ:∀ c,c<s.size->ρ' c=ρ c):aY ρ' s B room fs l q sure:=by
 obtain ⟨p1,p2,p3,p4,p5,p6⟩:=h.zX
 obtain ⟨d1,d2,d3⟩:=h.dk.zX
 have r:=h.ro
 exact ⟨h.dk,h.st,h.le,h.en,h.hf,⟨by rw [hρ _ p1];exact r.p,by rw [hρ _ p2];exact r.b,by rw [hρ _ p3];exact r.mp,fun c hc=>by rw [hρ _ (p4 c hc)];exact r.lx c hc,fun c hc=>by rw [hρ _ (p5 c hc)];exact r.ex c hc,
  fun c hc=>by rw [hρ _ (p6 c hc)];exact r.qx c hc,by rw [hρ _ d1];exact r.i,by rw [hρ _ d2];exact r.m,fun f hf=>by rw [hρ _ (d3 f hf).1];exact r.fb f hf,fun f hf c hc=>by rw [hρ _ ((d3 f hf).2 c hc)];exact r.fx f hf c hc⟩,h.fo,h.wf,h.Co,h.su⟩
end
section
variable {ρ ρ':Nat->Nat} {s t:St} {D:oH} {room:Int} {fs:List Fl} {l:List bA} {q:FoS} {sure:Nat} {i m:Nat} {e:bA}
theorem CQ {g g':Mem} {P i j:Nat} {x:S} {vs:List S} {l:List (Nat×Nat×dO)} (h:g i=some (.cells true vs)) (h':g' i=some (.cells true vs)) (hx:vs[j]? = some x) (hl:∀ q k b,(q,k,b)∈l->k≠i) :
 ab (Z (.ptr i j)) (cq P g l)=ab (Z (.ptr i j)) g':=by
 have e:cq P g l i=g i:=nV P g i l fun q k b hm _=>hl q k b hm
 rw [ai (e.trans h) hx,ai h' hx]
theorem xf {k n:Nat} {x:JN} {r:List (Nat×Nat×dO)} {q j:Nat} {b:dO} (h:(q,j,b)∈Bw k n x r):j=n\/(q,j,b)∈r:=by
 unfold Bw at h
 split at h
 · rcases List.mem_cons.1 h with h | h
   · cases h;exact .inl rfl
   · exact .inr h
 · exact .inr h
abbrev xM (i b:Nat) (lx ex:S) (sure:Nat):List S:=[.ptr i 0,lx,ex,.ptr b 0,.int .i64 sure]
theorem vA (d:Nat) {p b:Nat} {lx ex:S} (hp:s.get p=some (.cells true (xM i b lx ex sure))) (he:Rd 1 s ex l.length ((mC l).map (S.int .i64))) {n:Nat} (hn:n<=l.length) (hl:l.length<=3000) :
 R (d+1) 46 [Z (.ptr p 0),I .i64 n] s=some (I .i64 (cH l n:Nat),s):=by
 rw [Lt]
 unfold f46
 cases n with
 | zero=>simp [lE]
 | succ n =>
   have l2:ab (Z (.ptr p 2)) s.get=some (Z ex):=ai hp rfl
   have w1:IntKind.i64.wrap (((n+1:Nat):Int)-1)=(n:Int):=by rw [aB _ (by omega) (by omega)];omega
   obtain ⟨P,ix,ld⟩:=he.xL (i:=(n:Int)) (j:=n) (v := .int .i64 (cH l (n+1):Nat)) rfl (by rw [List.getElem?_map,DB (by omega)];rfl)
   have c0:¬ ((n+1:Nat):Int)=0:=by omega
   generalize ((n+1:Nat):Int)=N1 at *
   generalize ((cH l (n+1):Nat):Int)=PL at *
   generalize (n:Int)=NN at *
   simp [c0,l2,w1,ix,ld]
theorem aY.ok (h:aY ρ s D room fs l q sure):l.all bT=true/\Ff q/\q.cW.length<=2000:=by
 obtain ⟨h1,h2,h3⟩:=oU h.fo AO
 have:=h.Co
 exact ⟨h1,h2,by simp [kT] at h3;omega⟩
set_option maxHeartbeats 1000000 in
theorem ze (d:Nat) (h:aY ρ s D room fs l q sure) (he:bz q e=0) (hw:rK e) (hl:l.length<2000) :
 ∃ ρ' D' t,R (d+11) 44 [Z (.ptr D.p 0),AE e] s=some (B true,t)/\aY ρ' t D' room fs (l++[e]) (cT q e) sure/\s.size<=t.size/\(D'.p=D.p/\D'.i=D.i/\D'.m=D.m) ∧
   (∀ c,c<s.size->ρ' c=ρ c)/\∀ c,c<s.size->(ρ c=0\/7<=ρ c)->t.get c=s.get c:=by
 obtain ⟨p1,p2,p3,p4,p5,p6⟩:=h.zX
 obtain ⟨hall,hok,cM⟩:=h.ok
 have r:=h.ro
 have hm:=gv he
 obtain ⟨s1,hs1⟩:∃ s1,s1=s.push (.cells true (cE e)):=⟨_,rfl⟩
 have cX:aK s (ct (AE e))=some (Z (.ptr s.size 0),s1):=by rw [hs1];rfl
 have g1:Gr s s1:=by rw [hs1];exact Gr.push h.qA _
 have b1:s1.get s.size=some (.cells true (cE e)):=by rw [hs1];exact St.aq _ _
 have l1:=dQ (g:=s1.get) b1
 have z1:s1.size=s.size+1:=by rw [hs1];simp
 obtain ⟨y,s2,e2,g2,f2⟩:=oV d g1.wf e hw
 have xP:eB e=some (aX (bp e)):=by unfold eB;rw [if_pos hm]
 have fb:=f2 _ xP
 rw [xP] at e2
 have ly:=fb.rd.lens
 have b2:=g2.get b1 g1.wf
 have l2:=dQ (g:=s2.get) b2
 have RP:=g1.trans g2
 have h2:=h.gr RP
 have z2:=g2.2.1
 have q3:ab (Z (.ptr D.p 3)) s2.get=some (Z (.ptr D.b 0)):=ai h2.st rfl
 obtain ⟨s3,y3,e3,H3⟩:=vr d h2.hf hok (by omega) e
 rw [he] at e3 H3
 rw [if_pos rfl] at H3
 have k3:=H3.gr.2.2
 have z3:=H3.gr.2.1
 have kp:∀ c,c<s2.size->c≠D.b->c≠D.mp->own D.qx≠some c->s3.get c=s2.get c:=fun c hc a1 a2 a3=>k3 c hc ⟨a1,a2,a3⟩
 have kr:∀ c,c<s.size->ρ c≠2->ρ c≠3->ρ c≠6->s3.get c=s.get c:=fun c hc a1 a2 a3=>by
  rw [kp c (by omega) (fun e=>a1 (by rw [e];exact r.b)) (fun e=>a2 (by rw [e];exact r.mp)) (fun e=>a3 (r.qx c e)),RP.2.2 c hc]
 have Jd:s3.get D.p=some (.cells true (xM D.i D.b D.lx D.ex sure)):=by rw [kr _ p1 (by rw [r.p];decide) (by rw [r.p];decide) (by rw [r.p];decide)];exact h.st
 have UC:Ow 8 s3 D.lx l.length (cells cE l):=h.le.keep fun c hc=>kr c (p4 c hc) (by rw [r.lx c hc];decide) (by rw [r.lx c hc];decide) (by rw [r.lx c hc];decide)
 have Yf:Ow 1 s3 D.ex l.length ((mC l).map (S.int .i64)):=h.en.keep fun c hc=>kr c (p5 c hc) (by rw [r.ex c hc];decide) (by rw [r.ex c hc];decide) (by rw [r.ex c hc];decide)
 have b3:s3.get s.size=some (.cells true (cE e)):=by
  rw [kp _ (by omega) (by omega) (by omega) (fun hc=>by have:=p6 _ hc;omega)]
  exact b2
 have q2:ab (Z (.ptr D.p 2)) s3.get=some (Z D.ex):=ai Jd rfl
 have q1:ab (Z (.ptr D.p 1)) s3.get=some (Z D.lx):=ai Jd rfl
 have ll:=UC.rd.lens
 have e4:=vA (d+9) (l:=l) Jd Yf.rd (Nat.le_refl _) (by omega)
 rw [dD] at e4
 have hfl:=kS l hall
 have NU:=iE xP
 obtain ⟨E1,Yo⟩:∃ E1:Int,E1=(((aD l).length+(aX (bp e)).length:Nat):Int):=⟨_,rfl⟩
 have w1:IntKind.i64.wrap (((aD l).length:Int)+((aX (bp e)).length:Int))=E1:=by rw [Yo,aB _ (by omega) (by omega)];omega
 have L5:=Fr.lit 1 H3.gr.wf (n:=1) (vs:=[.int .i64 E1]) rfl
 obtain ⟨s5,hs5⟩:∃ s5,s5=s3.push (.cells true [.int .i64 E1]):=⟨_,rfl⟩
 rw [← hs5] at L5
 have MU:aK s3 (aR 1 (aE [.int .i64 0] [(0,1,I .i64 E1)]))=some (Z (.sl s3.size 0 1 (.known 1)),s5):=by rw [hs5];simp [aK,aR,aE,V.cells,aO]
 have z5:s5.size=s3.size+1:=by rw [hs5];simp
 obtain ⟨ET,s6,QG,TD,z6,Yg,Xg,Xc⟩:=(Yf.gr H3.gr.wf L5.gr).append (by_:=8) L5.gr.wf (by omega) L5.rd.src rfl (by omega)
 have Y8:own D.ex≠some D.p:=fun hc=>by have:=r.ex _ hc;rw [r.p] at this;cases this
 have Xi:own D.lx≠some D.p:=fun hc=>by have:=r.lx _ hc;rw [r.p] at this;cases this
 have k6:∀ c,c<s3.size->own D.ex≠some c->s6.get c=s3.get c:=fun c hc hx=>by rw [Xg c (by omega) hx,L5.gr.2.2 c hc]
 have zG:s6.get D.p=some (.cells true (xM D.i D.b D.lx D.ex sure)):=by rw [k6 _ (by omega) Y8];exact Jd
 obtain ⟨s7,fI⟩:∃ s7,s7=s6.set D.p (.cells true (xM D.i D.b D.lx ET sure)):=⟨_,rfl⟩
 have Tx:aw 1 (Z (.ptr D.p 2)) (Z ET) s6=some (tt,s7):=by rw [fI];exact aT zG (by simp)
 have k7:∀ c,c≠D.p->s7.get c=s6.get c:=fun c hc=>by rw [fI,St.aj _ _ hc]
 have z7:s7.size=s6.size:=by rw [fI];simp
 have Zq:s7.wf:=by rw [fI];exact St.wf_set TD (by omega) _
 have p7:s7.get D.p=some (.cells true (xM D.i D.b D.lx ET sure)):=by rw [fI,St.ar]
 have Jv:ab (Z (.ptr D.p 2)) (cq 12 s3.get (Bw 15 s3.size (aR 1 (aE [.int .i64 0] [(0,1,I .i64 E1)])) []))=ab (Z (.ptr D.p 2)) s3.get :=
  CQ Jd Jd rfl fun q j b hm=>by
   rcases xf hm with rfl | hm
   · omega
   · cases hm
 have Tk:ab (Z (.ptr D.p 1)) s7.get=some (Z D.lx):=ai p7 rfl
 have ZT:own D.ex≠some s.size:=fun hc=>by have:=p5 _ hc;omega
 have lxs:own D.lx≠some s.size:=fun hc=>by have:=p4 _ hc;omega
 have b7:s7.get s.size=some (.cells true (cE e)):=by rw [k7 _ (by omega),k6 _ (by omega) ZT];exact b3
 have l7:=dQ (g:=s7.get) b7
 have Yi:∀ c,own D.lx=some c->own D.ex≠some c:=fun c hc hx=>by have a:=r.lx c hc;rw [r.ex c hx] at a;cases a
 have le7:Ow 8 s7 D.lx l.length (cells cE l):=UC.keep fun c hc=>by rw [k7 c (fun e=>Xi (e ▸ hc)),k6 c (by have:=p4 c hc;omega) (Yi c hc)]
 have L8:=Fr.lit 8 Zq (n:=1) (vs:=cE e) rfl
 obtain ⟨s8,zV⟩:∃ s8,s8=s7.push (.cells true (cE e)):=⟨_,rfl⟩
 rw [← zV] at L8
 have nw8:aK s7 (aR 1 (aE [.int .i64 0,.int .i64 0,.int .i64 0,.int .i64 0,.int .i64 0,.int .i64 0,.int .u32 0,.str []] [(0,8,AE e)]))=some (Z (.sl s7.size 0 1 (.known 1)),s8):=by rw [zV];rfl
 have z8:s8.size=s7.size+1:=by rw [zV];simp
 obtain ⟨zY,s9,Zx,XN,z9,le9,Im,Xd⟩:=(le7.gr Zq L8.gr).append (by_:=72) L8.gr.wf (by omega) L8.rd.src rfl (by omega)
 have k9:∀ c,c<s7.size->own D.lx≠some c->s9.get c=s7.get c:=fun c hc hx=>by rw [Im c (by omega) hx,L8.gr.2.2 c hc]
 have E6:s9.get D.p=some (.cells true (xM D.i D.b D.lx ET sure)):=by rw [k9 _ (by omega) Xi];exact p7
 obtain ⟨bV,kX⟩:∃ bV,bV=s9.set D.p (.cells true (xM D.i D.b zY ET sure)):=⟨_,rfl⟩
 have EC:aw 1 (Z (.ptr D.p 1)) (Z zY) s9=some (tt,bV):=by rw [kX];exact aT E6 (by simp)
 have JG:∀ c,c≠D.p->bV.get c=s9.get c:=fun c hc=>by rw [kX,St.aj _ _ hc]
 have XQ:bV.size=s9.size:=by rw [kX];simp
 have EM:bV.wf:=by rw [kX];exact St.wf_set XN (by omega) _
 have p10:bV.get D.p=some (.cells true (xM D.i D.b zY ET sure)):=by rw [kX,St.ar]
 have kk:∀ c,c<s3.size->c≠D.p->own D.ex≠some c->own D.lx≠some c->bV.get c=s3.get c:=fun c hc a1 a2 a3=>by
  rw [JG c a1,k9 c (by omega) a3,k7 c a1,k6 c hc a2]
 have Xe:∀ c,own ET=some c->own D.ex=some c\/s5.size<=c:=fun c hc=>by
  rcases Xc with e | e | ⟨c',e,gY⟩
  · rw [e] at hc;cases hc
  · rw [e] at hc;exact .inl hc
  · rw [e] at hc;cases hc;exact .inr gY
 have Y5:∀ c,own zY=some c->own D.lx=some c\/s8.size<=c:=fun c hc=>by
  rcases Xd with e | e | ⟨c',e,gY⟩
  · rw [e] at hc;cases hc
  · rw [e] at hc;exact .inl hc
  · rw [e] at hc;cases hc;exact .inr gY
 have oq:∀ c,own y3=some c->own D.qx=some c\/s2.size<=c:=fun c hc=>by
  obtain ⟨a1,a2,a3⟩:=H3.ow c hc
  by_cases hlt:c<s2.size
  · left
    by_cases hx:own D.qx=some c
    · exact hx
    · exact absurd ⟨a2,a3,hx⟩ (a1 hlt)
  · exact .inr (by omega)
 obtain ⟨ρ',hρ⟩:∃ ρ':Nat->Nat,ρ'=fun c=>if c<s.size then ρ c else if c<s2.size then 9 else if c<s3.size then 6 else if c<s7.size then 5 else 4:=⟨_,rfl⟩
 have qG:∀ c,c<s.size->ρ' c=ρ c:=fun c hc=>by rw [hρ];exact if_pos hc
 have HA:∀ c,s2.size<=c->c<s3.size->ρ' c=6:=fun c a b=>by rw [hρ];dsimp only;rw [if_neg (by omega),if_neg (by omega),if_pos b]
 have SV:∀ c,s3.size<=c->c<s7.size->ρ' c=5:=fun c a b=>by rw [hρ];dsimp only;rw [if_neg (by omega),if_neg (by omega),if_neg (by omega),if_pos b]
 have yP:∀ c,s7.size<=c->ρ' c=4:=fun c a=>by rw [hρ];dsimp only;rw [if_neg (by omega),if_neg (by omega),if_neg (by omega),if_neg (by omega)]
 obtain ⟨d1,d2,d3⟩:=h.dk.zX
 have kd:∀ c,c<s.size->(ρ c=0\/7<=ρ c)->bV.get c=s.get c:=fun c hc hr=>by
  rw [kk c (by omega) (fun e=>by rw [e,r.p] at hr;omega) (fun e=>by have:=r.ex c e;omega) (fun e=>by have:=r.lx c e;omega),kr c hc (by omega) (by omega) (by omega)]
 have ri:=r.i
 have rm:=r.m
 have Ze:∀ c,own y3=some c->c<s3.size:=fun c hc=>H3.ins.lt H3.gr.wf hc
 have Zr:∀ c,own ET=some c->c<s6.size:=fun c hc=>Yg.lt TD hc
 have Xl:∀ c,own y3=some c->c≠D.p/\own D.ex≠some c/\own D.lx≠some c:=fun c hc=>by
  rcases oq c hc with e | e
  · have:=r.qx c e
    exact ⟨(fun e'=>by rw [e',r.p] at this;cases this),(fun e'=>by rw [r.ex c e'] at this;cases this),(fun e'=>by rw [r.lx c e'] at this;cases this)⟩
  · exact ⟨by omega,fun e'=>by have:=p5 c e';omega,fun e'=>by have:=p4 c e';omega⟩
 refine ⟨ρ',{ D with lx:=zY,ex:=ET,qx:=y3 },bV,?_,⟨?_,p10,?_,?_,?_,⟨?_,?_,?_,?_,?_,?_,?_,?_,?_,?_⟩,eZ h.fo he,?_,by simp;omega,by simp;have:=h.su;omega⟩,by omega,⟨rfl,rfl,rfl⟩,qG,kd⟩
 · rw [Ls]
   unfold f44
   clear hρ qG HA SV yP kd kk
   simp only [Nat.add_assoc,Nat.reduceAdd] at e2 e3 e4
   generalize R (d+10)=rr at *
   generalize ((aX (bp e)).length:Int)=WL at *
   generalize ((aD l).length:Int)=FL at *
   generalize (l.length:Int)=LL at *
   simp [cX,l1,e2,ah,q3,l2,e3,q2,q1,ll,e4,ly,w1,MU,QG,Tx,Jv,Tk,l7,nw8,Zx,EC]
 · exact h.dk.pX EM (by omega) (kd _ d1 (.inl ri)) (kd _ d2 (.inl rm)) fun f hf=>⟨kd _ (d3 f hf).1 (.inl (r.fb f hf)),fun c hc=>kd _ ((d3 f hf).2 c hc) (.inl (r.fx f hf c hc))⟩
 · have:=le9.keep (t:=bV) fun c hc=>JG c (by
    rcases Y5 c hc with e | e
    · exact fun e'=>Xi (e' ▸ e)
    · omega)
   rw [fp]
   simpa using this
 · have:=Yg.keep (t:=bV) fun c hc=>by
    have QW:c≠D.p:=by
     rcases Xe c hc with e | e
     · exact fun e'=>Y8 (e' ▸ e)
     · omega
    rw [JG c QW,k9 c (by have:=Zr c hc;omega) (fun e'=>by
     rcases Xe c hc with e | e
     · exact Yi c e' e
     · have:=p4 c e';omega),k7 c QW]
   rw [AD,List.map_append,← Yo]
   simpa using this
 · exact H3.pX (K':=fun _=>True) EM (kk _ (by omega) (fun e=>by have:=r.b;rw [e,r.p] at this;cases this) (fun e=>by have:=r.ex _ e;rw [r.b] at this;cases this) (fun e=>by have:=r.lx _ e;rw [r.b] at this;cases this))
    (kk _ (by omega) (fun e=>by have:=r.mp;rw [e,r.p] at this;cases this) (fun e=>by have:=r.ex _ e;rw [r.mp] at this;cases this) (fun e=>by have:=r.lx _ e;rw [r.mp] at this;cases this))
    (fun c hc=>kk c (Ze c hc) (Xl c hc).1 (Xl c hc).2.1 (Xl c hc).2.2)
 · rw [qG _ p1];exact r.p
 · rw [qG _ p2];exact r.b
 · rw [qG _ p3];exact r.mp
 · intro c hc
   rcases Y5 c hc with e | e
   · rw [qG c (p4 c e)];exact r.lx c e
   · exact yP c (by omega)
 · intro c hc
   rcases Xe c hc with e | e
   · rw [qG c (p5 c e)];exact r.ex c e
   · exact SV c (by omega) (by have:=Zr c hc;omega)
 · intro c hc
   rcases oq c hc with e | e
   · rw [qG c (p6 c e)];exact r.qx c e
   · exact HA c e (Ze c hc)
 · rw [qG _ d1];exact ri
 · rw [qG _ d2];exact rm
 · intro f hf
   rw [qG _ (d3 f hf).1];exact r.fb f hf
 · intro f hf c hc
   rw [qG _ ((d3 f hf).2 c hc)];exact r.fx f hf c hc
 · intro x hx
   rcases List.mem_append.1 hx with hx | hx
   · exact h.wf x hx
   · rw [List.mem_singleton] at hx
     rw [hx];exact hw
end
def dE:Bs:=[108,111,103]
set_option maxRecDepth 100000 in
theorem ib:tX dE:=fun d s=>zc d s (iw rfl (by kernel_rfl) rfl)
def kg (fs:List Fl) (l:List bA) (sure:Nat):Prop :=
 (∃ (k:Nat) (f:Fl),fs[k]? = some f/\f.nm=dE/\f.l=U (aD l)/\f.sure=cH l sure)\/((∀ f∈fs,f.nm≠dE)/\l=[]/\sure=0)
def Grown (fs fs':List Fl) (bs:Bs):Prop :=
 (∃ (k:Nat) (f:Fl) (x':S),fs[k]? = some f/\f.nm=dE/\fs'=fs.set k { f with x:=x',l:=f.l++U bs,sure:=f.sure })\/((∀ f∈fs,f.nm≠dE)/\∃ (fb:Nat) (x':S),fs'=fs++[⟨dE,fb,x',U bs,0⟩])
section
variable {ρ ρ':Nat->Nat} {s t:St} {D:oH} {room:Int} {fs fs':List Fl} {l:List bA} {q:FoS} {sure:Nat} {i m:Nat} {e:bA}
theorem aY.Az (h:aY ρ s D room fs l q sure) (hd:Dk t D.i D.m room fs') (hz:s.size<=t.size) (hk:∀ c,c<s.size->ρ c≠0->t.get c=s.get c)
 (hf:∀ f∈fs',(f.fb<s.size->ρ f.fb=0)/\∀ c,own f.x=some c->c<s.size->ρ c=0):aY (fun c=>if c<s.size then ρ c else 0) t D room fs' l q sure:=by
 obtain ⟨p1,p2,p3,p4,p5,p6⟩:=h.zX
 obtain ⟨d1,d2,d3⟩:=h.dk.zX
 have r:=h.ro
 have k:=fun c hc (n:Nat) (e:ρ c=n) (hn:n≠0)=>hk c hc (by omega)
 refine ⟨hd,by rw [k _ p1 1 r.p (by omega)];exact h.st,h.le.keep fun c hc=>k _ (p4 c hc) 4 (r.lx c hc) (by omega),h.en.keep fun c hc=>k _ (p5 c hc) 5 (r.ex c hc) (by omega),
  h.hf.pX (K':=fun _=>True) hd.wf (k _ p2 2 r.b (by omega)) (k _ p3 3 r.mp (by omega)) (fun c hc=>k _ (p6 c hc) 6 (r.qx c hc) (by omega)),?_,h.fo,h.wf,h.Co,h.su⟩
 refine ⟨by rw [if_pos p1];exact r.p,by rw [if_pos p2];exact r.b,by rw [if_pos p3];exact r.mp,fun c hc=>by rw [if_pos (p4 c hc)];exact r.lx c hc,fun c hc=>by rw [if_pos (p5 c hc)];exact r.ex c hc,fun c hc=>by rw [if_pos (p6 c hc)];exact r.qx c hc,
  by rw [if_pos d1];exact r.i,by rw [if_pos d2];exact r.m,fun f L7 => ?_,fun f L7 c hc => ?_⟩
 · by_cases hlt:f.fb<s.size
   · rw [if_pos hlt];exact (hf f L7).1 hlt
   · rw [if_neg hlt]
 · by_cases hlt:c<s.size
   · rw [if_pos hlt];exact (hf f L7).2 c hc hlt
   · rw [if_neg hlt]
theorem rB {k:Nat} {f g x:Fl} (hk:fs[k]? = some f) (h:x∈fs.set k g):x=g\/x∈fs:=by
 rcases List.mem_or_eq_of_mem_set h with h | h
 · exact .inr h
 · exact .inl h
set_option maxHeartbeats 1000000 in
theorem JU (d:Nat) (h:aY ρ s D room fs l q sure) (yJ:kg fs l sure) (hn:tY fs) (hroom:(tot fs:Int)+(aX (bp e)).length<=room) (hsz:(aD l).length<=40000) (he:bz q e=0) (hw:rK e) (hl:l.length<2000) :
 ∃ ρ' D' fs' t,R (d+13) 68 [Z (.ptr D.p 0),AE e] s=some (I .i64 0,t)/\aY ρ' t D' room fs' (l++[e]) (cT q e) sure/\kg fs' (l++[e]) sure/\Grown fs fs' (aX (bp e))/\s.size<=t.size/\(D'.p=D.p/\D'.i=D.i/\D'.m=D.m) ∧
   (∀ c,c<s.size->ρ' c=ρ c)/\∀ c,c<s.size->7<=ρ c->t.get c=s.get c:=by
 have hm:=gv he
 obtain ⟨p1,p2,p3,p4,p5,p6⟩:=h.zX
 obtain ⟨d1,d2,d3⟩:=h.dk.zX
 have r:=h.ro
 obtain ⟨s1,hs1⟩:∃ s1,s1=s.push (.cells true (cE e)):=⟨_,rfl⟩
 have cX:aK s (ct (AE e))=some (Z (.ptr s.size 0),s1):=by rw [hs1];rfl
 have g1:Gr s s1:=by rw [hs1];exact Gr.push h.qA _
 have b1:s1.get s.size=some (.cells true (cE e)):=by rw [hs1];exact St.aq _ _
 have l1:=dQ (g:=s1.get) b1
 have z1:s1.size=s.size+1:=by rw [hs1];simp
 obtain ⟨y,s2,e2,g2,f2⟩:=oV (d+2) g1.wf e hw
 have xP:eB e=some (aX (bp e)):=by unfold eB;rw [if_pos hm]
 have fb:=f2 _ xP
 have NU:=iE xP
 rw [xP] at e2
 have b2:=g2.get b1 g1.wf
 have RP:=g1.trans g2
 have z2:=g2.2.1
 obtain ⟨Ca,Hz⟩:∃ Ca:Nat->Nat,Ca=fun c=>if c<s.size then ρ c else 9:=⟨_,rfl⟩
 have PX:∀ c,c<s.size->Ca c=ρ c:=fun c hc=>by rw [Hz];exact if_pos hc
 have WA:∀ c,s.size<=c->Ca c=9:=fun c hc=>by rw [Hz];exact if_neg (by omega)
 have h2:aY Ca s2 D room fs l q sure:=(h.XC PX).gr RP
 have q0:ab (Z (.ptr D.p 0)) s2.get=some (Z (.ptr D.i 0)):=ai h2.st rfl
 have Ct:(U (aX (bp e))).length=(aX (bp e)).length:=by simp [U]
 have hy:xK s2 y (U (aX (bp e))):=by
  have:=fb.rd
  rw [← Ct] at this
  exact this
 have yl:∀ c,own y=some c->s1.size<=c/\c<s2.size:=fb.new
 have r2:=h2.ro
 have step:∃ fs' s3,R (d+12) 12 [Z (.ptr D.i 0),Z (.str dE),Z y] s2=some (I .i64 0,s3)/\aY (fun c=>if c<s2.size then Ca c else 0) s3 D room fs' l q sure/\Grown fs fs' (aX (bp e))/\kg fs' (l++[e]) sure/\s2.size<=s3.size/\∀ c,c<s2.size->Ca c≠0->s3.get c=s2.get c:=by
  rcases yJ with ⟨k,f,hk,hnm,hfl,QY⟩ | ⟨hno,rfl,rfl⟩
  · have qE:=List.mem_of_getElem? hk
    have YA:f.l.length=(aD l).length:=by rw [hfl];simp [U]
    obtain ⟨x',s3,e3,k3,z3,o3,n3⟩:=ym (d+9) h2.dk hn hk (by rw [hnm];exact ib) hy (fun c hc=>(yl c hc).2) (by rw [Ct];exact hroom) (by omega) (by omega)
    rw [hnm] at e3
    have kk:∀ c,c<s2.size->Ca c≠0->s3.get c=s2.get c:=fun c hc hr=>o3 c hc (fun e=>hr (by rw [e];exact r2.fb f qE)) (fun e=>hr (r2.fx f qE c e))
    refine ⟨_,s3,e3,h2.Az k3 z3 kk fun g hg => ?_,.inl ⟨k,f,x',hk,hnm,rfl⟩,.inl ⟨k,{ f with x:=x',l:=f.l++U (aX (bp e)),sure:=f.sure },?_,hnm,?_,?_⟩,z3,kk⟩
    · rcases rB hk hg with rfl | hg
      · refine ⟨fun _=>r2.fb f qE,fun c hc hlt => ?_⟩
        rcases n3 with e | e | ⟨c',e,gY⟩
        · rw [e] at hc;cases hc
        · rw [e] at hc;exact r2.fx f qE c hc
        · rw [e] at hc;cases hc;omega
      · exact ⟨fun _=>r2.fb g hg,fun c hc _=>r2.fx g hg c hc⟩
    · rw [List.getElem?_set]
      have:=(List.getElem?_eq_some_iff.1 hk).1
      simp [this]
    · show f.l++U _=_
      rw [hfl,gX]
      simp [U]
    · show f.sure=_
      rw [QY,jm _ _ h.su]
  · obtain ⟨x',RO,s3,e3,k3,z3,o3,n3,m3⟩:=pS (d+9) h2.dk hn hno ib hy (fun c hc=>(yl c hc).2) (fun e=>by have:=yl _ e;omega) (by rw [Ct];exact hroom) (by omega)
    have kk:∀ c,c<s2.size->Ca c≠0->s3.get c=s2.get c:=fun c hc hr=>o3 c hc (fun e=>hr (by rw [e];exact r2.m))
    refine ⟨_,s3,e3,h2.Az k3 z3 kk fun g hg => ?_,.inr ⟨hno,RO,x',rfl⟩,.inl ⟨fs.length,⟨dE,RO,x',U (aX (bp e)),0⟩,by simp,rfl,?_,?_⟩,z3,kk⟩
    · rcases List.mem_append.1 hg with hg | hg
      · exact ⟨fun _=>r2.fb g hg,fun c hc _=>r2.fx g hg c hc⟩
      · rw [List.mem_singleton] at hg
        subst hg
        exact ⟨fun hlt=>by have:RO<s2.size:=hlt;omega,fun c hc hlt=>by have:=m3 c hc;omega⟩
    · show U _=U _
      simp [aD]
    · show 0=_
      rw [lE]
 obtain ⟨fs',s3,e3,h3,hg,Hi,z3,k3⟩:=step
 have b3:s3.get s.size=some (.cells true (cE e)):=by rw [k3 _ (by omega) (by rw [WA _ (Nat.le_refl _)];decide)];exact b2
 have l3:=dQ (g:=s3.get) b3
 obtain ⟨ρ',D',t,e4,h4,z4,hD,Wy,k4⟩:=ze (d+1) h3 he hw hl
 have WB:∀ c,c<s.size->ρ' c=ρ c:=fun c hc=>by rw [Wy c (by omega),if_pos (by omega),PX c hc]
 refine ⟨ρ',D',fs',t,?_,h4,Hi,hg,by omega,hD,WB,fun c hc hr => ?_⟩
 · rw [Cm]
   unfold f68
   simp only [Nat.add_assoc,Nat.reduceAdd] at e2 e4
   rw [show dE=[108,111,103] from rfl] at e3
   generalize R (d+12)=rr at *
   simp [cX,l1,e2,ah,q0,e3,l3,e4]
 · have hc1:Ca c=ρ c:=PX c hc
   rw [k4 c (by omega) (by rw [if_pos (by omega),hc1];exact .inr hr),k3 c (by omega) (by omega),RP.2.2 c hc]
theorem FF (d:Nat) (h:aY ρ s D room fs l q sure) (hl:l.length<2000) (e:bA):∃ t,R (d+10) 67 [Z (.ptr D.p 0),AE e] s=some (I .i64 (bz q e),t)/\Gr s t:=by
 obtain ⟨hall,hok,cM⟩:=h.ok
 obtain ⟨s1,hs1⟩:∃ s1,s1=s.push (.cells true (cE e)):=⟨_,rfl⟩
 have cX:aK s (ct (AE e))=some (Z (.ptr s.size 0),s1):=by rw [hs1];rfl
 have g1:Gr s s1:=by rw [hs1];exact Gr.push h.qA _
 have b1:s1.get s.size=some (.cells true (cE e)):=by rw [hs1];exact St.aq _ _
 have l1:=dQ (g:=s1.get) b1
 have h1:=h.gr g1
 have q3:ab (Z (.ptr D.p 3)) s1.get=some (Z (.ptr D.b 0)):=ai h1.st rfl
 obtain ⟨t,e2,g2⟩:=tL d h1.hf hok (by have:=hok.len;omega) e
 have h2:=h1.gr g2
 have q1:ab (Z (.ptr D.p 1)) t.get=some (Z D.lx):=ai h2.st rfl
 have ll:=h2.le.rd.lens
 have c0:¬ (l.length:Int)=2000:=by omega
 refine ⟨t,?_,g1.trans g2⟩
 rw [LA]
 unfold f67
 generalize R (d+9)=rr at *
 generalize (l.length:Int)=LL at *
 by_cases hz:bz q e=0
 · rw [hz] at e2 ⊢
   simp [cX,l1,q3,e2,q1,ll,c0]
 · generalize bz q e=A at *
   simp [cX,l1,q3,e2,hz]
end
section
variable {ρ ρ':Nat->Nat} {s t:St} {D:oH} {room:Int} {fs fs':List Fl} {l:List bA} {q:FoS} {sure:Nat} {i m:Nat} {e:bA}
theorem sn (d:Nat) (h:Dk s i m room fs) {nm:List UInt8} (hno:∀ g∈fs,g.nm≠nm) (hm:tX nm):R (d+3) 47 [Z (.ptr i 0),Z (.str nm)] s=some (I .i64 9,s):=by
 rw [Ck]
 unfold f47
 have e1:=fQ d h hno hm
 generalize R (d+2)=r at e1 ⊢
 simp [e1,ah]
def Ai (fs fs':List Fl):Prop :=
 (∃ (k:Nat) (f:Fl),fs[k]? = some f/\f.nm=dE/\fs'=fs.set k { f with x:=f.x,l:=f.l,sure:=f.l.length })\/((∀ f∈fs,f.nm≠dE)/\fs'=fs)
theorem aY.C0 (h:aY ρ s D room fs l q sure) {n:Nat} (hn:n<=l.length):aY ρ (s.set D.p (.cells true (xM D.i D.b D.lx D.ex n))) D room fs l q n:=by
 obtain ⟨p1,p2,p3,p4,p5,p6⟩:=h.zX
 obtain ⟨d1,d2,d3⟩:=h.dk.zX
 have r:=h.ro
 have k:∀ c (j:Nat),ρ c=j->j≠1->(s.set D.p (.cells true (xM D.i D.b D.lx D.ex n))).get c=s.get c:=fun c j e hj=>St.aj _ _ fun e'=>by
  rw [e',r.p] at e
  exact hj e.symm
 have wf:(s.set D.p (.cells true (xM D.i D.b D.lx D.ex n))).wf:=St.wf_set h.qA p1 _
 exact ⟨h.dk.pX wf (by simp) (k _ 0 r.i (by decide)) (k _ 0 r.m (by decide)) (fun f hf=>⟨k _ 0 (r.fb f hf) (by decide),fun c hc=>k _ 0 (r.fx f hf c hc) (by decide)⟩),St.ar _ _ _,
  h.le.keep fun c hc=>k _ 4 (r.lx c hc) (by decide),h.en.keep fun c hc=>k _ 5 (r.ex c hc) (by decide),h.hf.pX (K':=fun _=>True) wf (k _ 2 r.b (by decide)) (k _ 3 r.mp (by decide)) (fun c hc=>k _ 6 (r.qx c hc) (by decide)),r,h.fo,h.wf,h.Co,hn⟩
theorem Jg (d:Nat) (h:aY ρ s D room fs l q sure) (yJ:kg fs l sure) :
 ∃ ρ' fs' t,R (d+4) 19 [Z (.ptr D.p 0)] s=some (I .i64 0,t)/\aY ρ' t D room fs' l q l.length/\kg fs' l l.length/\Ai fs fs'/\s.size<=t.size/\(∀ c,c<s.size->ρ' c=ρ c)/\∀ c,c<s.size->7<=ρ c->t.get c=s.get c:=by
 have r:=h.ro
 have p1:=h.zX.1
 have q0:ab (Z (.ptr D.p 0)) s.get=some (Z (.ptr D.i 0)):=ai h.st rfl
 have np:iC .p (Z (.ptr D.p 0)) (Z .bU)=some (B false):=rfl
 have step:∃ ρ' fs' s1 c,R (d+3) 47 [Z (.ptr D.i 0),Z (.str dE)] s=some (I .i64 c,s1)/\aY ρ' s1 D room fs' l q sure/\kg fs' l l.length/\Ai fs fs'/\s.size<=s1.size/\(∀ c,c<s.size->ρ' c=ρ c)/\∀ c,c<s.size->7<=ρ c->s1.get c=s.get c:=by
  rcases yJ with ⟨k,f,hk,hnm,hfl,QY⟩ | ⟨hno,rfl,rfl⟩
  · have qE:=List.mem_of_getElem? hk
    obtain ⟨s1,e1,k1,z1,o1⟩:=uQ d h.dk hk (by rw [hnm];exact ib)
    rw [hnm] at e1
    refine ⟨_,_,s1,0,e1,h.Az k1 z1 (fun c hc hr=>o1 c fun e=>hr (by rw [e];exact r.fb f qE)) fun g hg => ?_,.inl ⟨k,{ f with x:=f.x,l:=f.l,sure:=f.l.length },?_,hnm,hfl,?_⟩,.inl ⟨k,f,hk,hnm,rfl⟩,z1,fun c hc=>if_pos hc,fun c hc hr=>o1 c fun e=>by rw [e,r.fb f qE] at hr;omega⟩
    · rcases rB hk hg with rfl | hg
      · exact ⟨fun _=>r.fb f qE,fun c hc _=>r.fx f qE c hc⟩
      · exact ⟨fun _=>r.fb g hg,fun c hc _=>r.fx g hg c hc⟩
    · rw [List.getElem?_set]
      have:=(List.getElem?_eq_some_iff.1 hk).1
      simp [this]
    · show f.l.length=_
      rw [dD,hfl]
      simp [U]
  · exact ⟨ρ,fs,s,9,sn d h.dk hno ib,h,.inr ⟨hno,rfl,rfl⟩,.inr ⟨hno,rfl⟩,Nat.le_refl _,fun _ _=>rfl,fun _ _ _=>rfl⟩
 obtain ⟨ρ',fs',s1,C,e1,h1,Hi,hS,z1,hρ,k1⟩:=step
 have q1:ab (Z (.ptr D.p 1)) s1.get=some (Z D.lx):=ai h1.st rfl
 have ll:=h1.le.rd.lens
 have st:aw 1 (Z (.ptr D.p 4)) (I .i64 (l.length:Nat)) s1=some (tt,s1.set D.p (.cells true (xM D.i D.b D.lx D.ex l.length))):=aT h1.st (by simp)
 refine ⟨ρ',fs',_,?_,h1.C0 (Nat.le_refl _),Hi,hS,by simpa using z1,hρ,fun c hc hr => ?_⟩
 · rw [K9]
   unfold f19
   rw [show dE=[108,111,103] from rfl] at e1
   generalize R (d+3)=rr at *
   generalize (l.length:Int)=LL at *
   simp [np,q0,e1,q1,ll,st]
 · rw [St.aj _ _ (fun e=>by rw [e,r.p] at hr;omega)]
   exact k1 c hc hr
theorem yx (d:Nat) (h:aY ρ s D room fs l q sure):∃ y t,R (d+2) 23 [Z (.ptr D.p 0)] s=some (Z y,t)/\Fr 8 s t y l.length (cells cE l):=by
 have np:iC .p (Z (.ptr D.p 0)) (Z .bU)=some (B false):=rfl
 have q1:ab (Z (.ptr D.p 1)) s.get=some (Z D.lx):=ai h.st rfl
 have mv:=dJ (e:=8) FO l
 have hlt:=h.zX.2.2.2.1
 have Co:=h.Co
 have cl:∃ y t,R (d+1) 78 [Z D.lx] s=some (Z y,t)/\Fr 8 s t y l.length (cells cE l):=by
  rw [LM]
  unfold f78
  have go:iC .l (Z D.lx) (Z .az)=some (B false)->∃ y t,(bd (iC .l (Z D.lx) (Z .az)) fun t4=>br t4 (some ((Z .az),s)) (ay (aK s (aR 0 (aE [] []))) fun t5 s1=>ay (aH 8 72 t5 (Z D.lx) s1) fun t7 s2=>some (t7,s2)))=some (Z y,t)/\Fr 8 s t y l.length (cells cE l):=by
   intro e
   have f0:=Fr.lit 8 h.qA (n:=0) (vs:=[]) rfl
   have nw:aK s (aR 0 (aE [] []))=some (Z (.sl s.size 0 0 (.known 0)),s.push (.cells true [])):=by simp [aK,aR,aE]
   obtain ⟨y,t,ap,f,_⟩:=f0.append (by_:=72) (by omega) (h.le.rd.gr hlt f0.gr).src mv (by omega)
   simp only [Nat.zero_add,List.nil_append] at f
   exact ⟨y,t,by simp [e,nw,ap],f⟩
  rcases h.le.ow with ⟨hx,hz⟩ | ⟨c,rows,hx,hz,_⟩ | ⟨c,rows,cap,hx,hc,_⟩
  · have hl:l=[]:=List.eq_nil_of_length_eq_zero hz
    rw [hx]
    have e:iC .l (Z .az) (Z .az)=some (B true):=rfl
    refine ⟨.az,s,by simp [e],?_⟩
    rw [hl]
    exact Fr.nil 8 h.qA
  · exact go (by rw [hx];rfl)
  · exact go (by rw [hx];rcases hc with rfl | rfl<;>rfl)
 obtain ⟨y,t,e1,f1⟩:=cl
 refine ⟨y,t,?_,f1⟩
 rw [Ll]
 unfold f23
 generalize R (d+1)=rr at *
 simp [np,q1,e1]
end
structure FV where
 nm:Bs
 l:List S
 sure:Nat
def vw (f:Fl):FV:=⟨f.nm,f.l,f.sure⟩
abbrev cu (fs:List Fl):List FV:=fs.map vw
def fL (n:Bs) (g:FV->FV) (vs:List FV):List FV:=vs.map fun v=>if v.nm=n then g v else v
def fS (n:Bs) (vs:List FV):Bool:=vs.any fun v=>v.nm == n
def dW (bs:Bs) (vs:List FV):List FV:=if fS dE vs=true then fL dE (fun v=>⟨v.nm,v.l++U bs,v.sure⟩) vs else vs++[⟨dE,U bs,0⟩]
def gE (n:Bs) (vs:List FV):List FV:=fL n (fun v=>⟨v.nm,v.l,v.l.length⟩) vs
def Dv (n:Bs) (k:Nat) (vs:List FV):List FV:=fL n (fun v=>⟨v.nm,v.l.take k,min v.sure k⟩) vs
def tD (n:Bs) (vs:List FV):List FV:=vs.filter fun v => !(v.nm == n)
theorem gx {n:Bs} {vs:List FV}:fS n vs=true↔∃ v∈vs,v.nm=n:=by
 unfold fS
 rw [List.any_eq_true]
 simp
theorem dP {n:Bs} {vs:List FV}:fS n vs=false↔∀ v∈vs,v.nm≠n:=by
 rw [← Bool.not_eq_true,gx]
 constructor
 · intro h v hv e
   exact h ⟨v,hv,e⟩
 · rintro h ⟨v,hv,e⟩
   exact h v hv e
theorem ou {n:Bs} {g:FV->FV} {vs:List FV} (h:∀ v∈vs,v.nm≠n):fL n g vs=vs:=by
 unfold fL
 rw [List.map_congr_left (g:=id) fun v hv=>by simp [h v hv]]
 simp
theorem j9 {n:Bs} {g:FV->FV} (hg:∀ v,(g v).nm=v.nm) (vs:List FV):(fL n g vs).map (·.nm)=vs.map (·.nm):=by
 unfold fL
 rw [List.map_map]
 apply List.map_congr_left
 intro v _
 simp only [Function.comp]
 split
 · exact hg v
 · rfl
section
variable {fs fs':List Fl}
theorem vS (fs:List Fl):(cu fs).map (·.nm)=fs.map (·.nm):=by
 unfold cu
 rw [List.map_map];rfl
theorem rI (hn:(fs.map (·.nm)).Nodup) {k:Nat} {f f':Fl} (hk:fs[k]? = some f) (g:FV->FV) (hg:vw f'=g (vw f)):cu (fs.set k f')=fL f.nm g (cu fs):=by
 apply List.ext_getElem?
 intro j
 unfold fL cu
 rw [List.getElem?_map,List.getElem?_set,List.getElem?_map,List.getElem?_map]
 by_cases hj:k=j
 · subst hj
   have hl:=(List.getElem?_eq_some_iff.1 hk).1
   rw [if_pos rfl,if_pos hl,hk]
   have uW:=hg
   simp [vw] at uW ⊢
   exact uW
 · rw [if_neg hj]
   cases hx:fs[j]? with
   | none=>rfl
   | some x =>
     have hne:x.nm≠f.nm:=fun e=>hj ((List.getElem?_inj (by rw [List.length_map];exact (List.getElem?_eq_some_iff.1 hk).1) hn).1 (by rw [List.getElem?_map,List.getElem?_map,hk,hx];simp [e]))
     simp [vw,hne]
theorem EJ (hn:(fs.map (·.nm)).Nodup) {k:Nat} {f:Fl} (hk:fs[k]? = some f):cu (fs.eraseIdx k)=tD f.nm (cu fs):=by
 induction fs generalizing k with
 | nil=>simp at hk
 | cons a r ih =>
   rw [List.map_cons,List.nodup_cons] at hn
   cases k with
   | zero =>
     simp at hk
     subst hk
     have h1:∀ v∈cu r,v.nm≠a.nm:=fun v hv e=>hn.1 (by
      rw [← e,← vS]
      exact List.mem_map_of_mem hv)
     simp only [List.eraseIdx_cons_zero]
     unfold tD
     have h2:cu (a::r)=vw a::cu r:=rfl
     rw [h2,List.filter_cons]
     simp only [vw,beq_self_eq_true,Bool.not_true,Bool.false_eq_true,if_false]
     rw [List.filter_eq_self.2 fun v hv=>by simpa using h1 v hv]
   | succ k =>
     simp at hk
     have hne:a.nm≠f.nm:=fun e=>hn.1 (by rw [e];exact List.mem_map_of_mem (List.mem_of_getElem? hk))
     have h2:cu (a::r)=vw a::cu r:=rfl
     have h3:cu ((a::r).eraseIdx (k+1))=vw a::cu (r.eraseIdx k):=rfl
     rw [h3,h2,ih hn.2 hk]
     unfold tD
     rw [List.filter_cons]
     simp [vw,hne]
theorem EL (hn:(fs.map (·.nm)).Nodup) {bs:Bs} (g:Grown fs fs' bs):cu fs'=dW bs (cu fs):=by
 rcases g with ⟨k,f,x',hk,hnm,rfl⟩ | ⟨hno,fb,x',rfl⟩
 · have h1:fS dE (cu fs)=true:=gx.2 ⟨vw f,List.mem_map_of_mem (List.mem_of_getElem? hk),hnm⟩
   unfold dW
   rw [if_pos h1,← hnm]
   exact rI hn hk _ rfl
 · have h1:fS dE (cu fs)=false:=dP.2 fun v hv e=>by
    obtain ⟨f,hf,rfl⟩:=List.mem_map.1 hv
    exact hno f hf e
   unfold dW
   rw [h1]
   simp [cu,vw]
theorem B5 (hn:(fs.map (·.nm)).Nodup) (g:Ai fs fs'):cu fs'=gE dE (cu fs):=by
 rcases g with ⟨k,f,hk,hnm,rfl⟩ | ⟨hno,rfl⟩
 · rw [← hnm]
   exact rI hn hk _ rfl
 · unfold gE
   rw [ou]
   intro v hv e
   obtain ⟨f,hf,rfl⟩:=List.mem_map.1 hv
   exact hno f hf e
def dx (vs:List FV):Nat:=(vs.map (·.l.length)).sum
theorem rF (fs:List Fl):tot fs=dx (cu fs):=by
 unfold tot dx cu
 rw [List.map_map];rfl
def Ag (vs:List FV) (l:List bA) (sure:Nat):Prop:=(∃ v∈vs,v.nm=dE/\v.l=U (aD l)/\v.sure=cH l sure)\/((∀ v∈vs,v.nm≠dE)/\l=[]/\sure=0)
theorem lX {l:List bA} {sure:Nat}:kg fs l sure↔Ag (cu fs) l sure:=by
 constructor
 · rintro (⟨k,f,hk,h1,h2,h3⟩ | ⟨h1,h2,h3⟩)
   · exact .inl ⟨vw f,List.mem_map_of_mem (List.mem_of_getElem? hk),h1,h2,h3⟩
   · exact .inr ⟨fun v hv=>by obtain ⟨f,hf,rfl⟩:=List.mem_map.1 hv;exact h1 f hf,h2,h3⟩
 · rintro (⟨v,hv,h1,h2,h3⟩ | ⟨h1,h2,h3⟩)
   · obtain ⟨f,hf,rfl⟩:=List.mem_map.1 hv
     obtain ⟨k,hk⟩:=List.getElem?_of_mem hf
     exact .inl ⟨k,f,hk,h1,h2,h3⟩
   · exact .inr ⟨fun f hf=>h1 (vw f) (List.mem_map_of_mem hf),h2,h3⟩
theorem jA {n:Bs} (h:fS n (cu fs)=true):∃ (k:Nat) (f:Fl),fs[k]? = some f/\f.nm=n:=by
 obtain ⟨v,hv,e⟩:=gx.1 h
 obtain ⟨f,hf,rfl⟩:=List.mem_map.1 hv
 obtain ⟨k,hk⟩:=List.getElem?_of_mem hf
 exact ⟨k,f,hk,e⟩
theorem iY {n:Bs} (h:fS n (cu fs)=false):∀ f∈fs,f.nm≠n:=fun f hf=>dP.1 h (vw f) (List.mem_map_of_mem hf)
end
section
variable {ρ ρ':Nat->Nat} {s t s6 u:St} {D:oH} {room:Int} {fs fs':List Fl} {l es:List bA} {q:FoS} {sure:Nat} {i m:Nat} {e:bA} {y:S} {v0:T}
theorem D9 (d:Nat) (h:aY ρ s6 D room fs [] kT 0) (hy:RE s6 y es) (JF:∀ c,own y=some c->c<s6.size/\7<=ρ c) (hw:∀ e∈es,rK e) (hf:aZ kT es=(0,q)) (hl:es.length<=2000) :
 ∃ ρ' D' t,loops (sy (R (d+12)) 8192) 8192 [v0,Z (.ptr D.p 0),Z y,I .i64 es.length,I .i64 0] s6=some (.exit 0 [v0,Z (.ptr D.p 0)],t)/\aY ρ' t D' room fs es q 0/\s6.size<=t.size/\(D'.p=D.p/\D'.i=D.i/\D'.m=D.m) ∧
   (∀ c,c<s6.size->ρ' c=ρ c)/\∀ c,c<s6.size->(ρ c=0\/7<=ρ c)->t.get c=s6.get c:=by
 obtain ⟨j,t,lp,rfl,Hg⟩:=aW (f:=sy (R (d+12)) 8192)
  (fun f v u=>∃ (k:Nat) (ρ':Nat->Nat) (D':oH) (qk:FoS),f+k=es.length/\v=[v0,Z (.ptr D.p 0),Z y,I .i64 es.length,I .i64 k]/\aY ρ' u D' room fs (es.take k) qk 0/\aZ qk (es.drop k)=(0,q)/\s6.size<=u.size/\(D'.p=D.p/\D'.i=D.i/\D'.m=D.m) ∧
   (∀ c,c<s6.size->ρ' c=ρ c)/\∀ c,c<s6.size->(ρ c=0\/7<=ρ c)->u.get c=s6.get c)
  (fun j u=>j = .exit 0 [v0,Z (.ptr D.p 0)]/\∃ (ρ':Nat->Nat) (D':oH),aY ρ' u D' room fs es q 0/\s6.size<=u.size/\(D'.p=D.p/\D'.i=D.i/\D'.m=D.m) ∧
   (∀ c,c<s6.size->ρ' c=ρ c)/\∀ c,c<s6.size->(ρ c=0\/7<=ρ c)->u.get c=s6.get c) (by
  rintro f v u ⟨k,ρ',D',qk,hk,rfl,H,nM,hz,⟨hp,hi,hm⟩,hρ,hkeep⟩
  by_cases eU:k<es.length
  · left
    have hc:es[k]? = some es[k]:=List.getElem?_eq_getElem eU
    obtain ⟨e,he⟩:∃ e,e=es[k]:=⟨_,rfl⟩
    rw [← he] at hc
    have mE:es.drop k=e::es.drop (k+1):=by rw [List.drop_eq_getElem_cons eU,he]
    rw [mE] at nM
    have ha:bz qk e=0:=by
     by_cases h0:bz qk e=0
     · exact h0
     · simp only [aZ,if_neg h0] at nM
       injection nM with h1 h2
    have ui:aZ (cT qk e) (es.drop (k+1))=(0,q):=by
     simpa only [aZ,if_pos ha] using nM
    have Uw:RE u y es:=hy.keep fun c hc=>hkeep c (JF c hc).1 (.inr (JF c hc).2)
    obtain ⟨p,ix,ld⟩:=Uw.X4 (n:=((k:Nat):Int)) rfl hc
    have c0:((k:Nat):Int)<((es.length:Nat):Int):=by omega
    have w1:IntKind.i64.wrap ((k:Int)+1)=((k+1:Nat):Int):=by rw [aB _ (by omega) (by omega)];omega
    obtain ⟨u1,Hq⟩:∃ u1,u1=u.push (.cells true (cE bC)):=⟨_,rfl⟩
    have Br:aK u (ba [.int .i64 0,.int .i64 0,.int .i64 0,.int .i64 0,.int .i64 0,.int .i64 0,.int .u32 0,.str []])=some (Z (.ptr u.size 0),u1):=by rw [Hq];rfl
    have b1:u1.get u.size=some (.cells true (cE bC)):=by rw [Hq];exact St.aq _ _
    have L3:Gr u u1:=by rw [Hq];exact Gr.push H.qA _
    obtain ⟨u2,yN⟩:∃ u2,u2=u1.set u.size (.cells true (cE e)):=⟨_,rfl⟩
    have xV:aw 8 (Z (.ptr u.size 0)) (AE e) u1=some (tt,u2):=by rw [yN];exact j6 b1 rfl
    have RU:Gr u u2:=by
     rw [yN]
     exact ⟨St.wf_set L3.wf (L3.wf.lt b1) _,by simpa using L3.2.1,fun c hc=>by rw [St.aj _ _ (by omega)];exact L3.2.2 c hc⟩
    have l2:aG 8 (Z (.ptr u.size 0)) u2.get=some (AE e):=dQ (by rw [yN];exact St.ar _ _ _)
    have SG:(es.take k).length=k:=by rw [List.length_take];omega
    obtain ⟨XU,D2,u3,e3,H3,z3,⟨Wb,hi3,Q8⟩,Wz,k3⟩:=ze (d+1) (H.gr RU) ha (hw e (List.mem_of_getElem? hc)) (by omega)
    rw [hp] at e3
    have z2:=RU.2.1
    have kZ:es.take k++[e]=es.take (k+1):=by rw [List.take_add_one,hc];rfl
    rw [kZ] at H3
    refine ⟨[v0,Z (.ptr D.p 0),Z y,I .i64 es.length,I .i64 ((k+1:Nat):Int)],u3,f-1,?_,by omega,k+1,XU,D2,cT qk e,by omega,rfl,H3,ui,by omega,⟨Wb.trans hp,hi3.trans hi,Q8.trans hm⟩,fun c hc=>by rw [Wz c (by omega),hρ c hc],fun c hc hr => ?_⟩
    · unfold sy
      simp only [Nat.add_assoc,Nat.reduceAdd] at e3
      clear nM ui mE
      generalize R (d+12)=r at *
      generalize ((k+1:Nat):Int)=K1 at *
      generalize ((k:Nat):Int)=K at *
      generalize ((es.length:Nat):Int)=LL at *
      generalize u.size=us at *
      simp [c0,ix,ld,Br,xV,l2,e3,w1]
    · rw [k3 c (by omega) (by rw [hρ c hc];exact hr),RU.2.2 c (by omega)]
      exact hkeep c hc hr
  · right
    have c0:¬ ((k:Nat):Int)<((es.length:Nat):Int):=by omega
    have Ma:k=es.length:=by omega
    subst Ma
    rw [List.take_length] at H
    rw [List.drop_length] at nM
    have hq:qk=q:=by simp only [aZ] at nM;injection nM
    refine ⟨_,u,?_,(fun v hv=>by cases hv),rfl,ρ',D',by rw [← hq];exact H,hz,⟨hp,hi,hm⟩,hρ,hkeep⟩
    unfold sy
    generalize ((es.length:Nat):Int)=LL at *
    simp [c0]) 8192 es.length [v0,Z (.ptr D.p 0),Z y,I .i64 es.length,I .i64 0] s6
  ⟨0,ρ,D,kT,by omega,rfl,by simpa using h,by simpa using hf,Nat.le_refl _,⟨rfl,rfl,rfl⟩,fun _ _=>rfl,fun _ _ _=>rfl⟩ (by omega)
 obtain ⟨ρ',D',a1,a2,a3,a4,a5⟩:=Hg
 exact ⟨ρ',D',t,lp,a1,a2,a3,a4,a5⟩
end
section
variable {ρ ρ':Nat->Nat} {s t:St} {D:oH} {room:Int} {fs fs':List Fl} {l es:List bA} {q:FoS} {sure:Nat} {i m:Nat} {e:bA} {y:S} {v0 v1:T} {bs:Bs}
theorem Dx (d:Nat) (h:Dk s i m room fs) {nm:List UInt8} (hno:∀ g∈fs,g.nm≠nm) (hm:tX nm) (n:Int):R (d+3) 45 [Z (.ptr i 0),Z (.str nm),I .i64 n] s=some (I .i64 9,s):=by
 rw [Cj]
 unfold f45
 have e1:=fQ d h hno hm
 generalize R (d+2)=r at e1 ⊢
 simp [e1,ah]
def iT (fs:List Fl) (bs:Bs):Prop:=(fs=[]/\bs=[])\/∃ f,fs=[f]/\f.nm=dE/\f.l=U bs
set_option maxRecDepth 100000 in
theorem PY (d:Nat):R (d+1) 52 [Z (.str dE)] s=some (I .i64 0,s):=nZ d s (by decide) (iw rfl (by kernel_rfl) rfl)
end
section
variable {ρ ρ':Nat->Nat} {s t:St} {D:oH} {room:Int} {fs fs':List Fl} {l es:List bA} {q:FoS} {sure:Nat} {i m:Nat} {e:bA} {y:S} {v0 v1:T} {bs:Bs}
end
end Go.Proofs.YtbohejffelipoaaGreatDoor
