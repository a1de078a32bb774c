/-
  Several texts in one: what functions that the law reaches compute. No conditions but those named in each line.
-/
import Derived.Test.YtbohejffelipoaaGreatDoorFnsD
import Derived.Test.YtbohejffelipoaaGreatDoorFnsA
import Derived.Shelf.Strings.OnBuilder
import Derived.Shelf.Strings.Search3
import Derived.Shelf.Strings.Count
import Derived.Test.YtbohejffelipoaaGreatDoorProg
import Derived.Shelf.SlGeneric
import Derived.Shelf.SlIter.Nil
import Derived.Shelf.SortM.Plain
import Derived.Shelf.SortM.SortNone
import Derived.Ground.GgzProg
import Derived.Ground.SlgmProg
import Derived.Test.YtbohejffelipoaaGreatDoorChecked
import Derived.WalkKit
import Derived.Test.YtbohejffelipoaaGreatDoorFnsB
import Derived.Test.YtbohejffelipoaaGreatDoorFnsC
namespace Go.Proofs.YtbohejffelipoaaGreatDoor
open Go Go.Abs Go.Abs.F
set_option linter.unusedVariables false
def fC:Int->Nat->List Int->List eQ
 | _,_,[]=>[]
 | t,i,x::r=>⟨t+1+((bJ x%40:Nat):Int),(i:Int)⟩::fC (t+1+((bJ x%40:Nat):Int)) (i+1) r
def gA (f:Int) (a:eQ):eQ:=⟨a.t+f,a.v⟩
def dz (id f:Int) (steps:List Int):List eQ:=(fC 0 0 ((id::steps).take 40)).map (gA f)
def gQ (id f:Int) (steps:List Int):Sg:=⟨1+((bJ id%1000:Nat):Int),f,(dz id f steps).getLast?.elim 0 (·.t)+1+((bJ id%7:Nat):Int),dz id f steps⟩
theorem iy:∀ (l:List Int) (t:Int) (i:Nat),(fC t i l).length=l.length
 | [],_,_=>rfl
 | x::r,t,i=>by simp [fC,iy r]
theorem vE:∀ (l:List Int) (t:Int) (i:Nat) (x:Int),∃ t',fC t i (l++[x])=fC t i l++[⟨t'+1+((bJ x%40:Nat):Int),((i+l.length:Nat):Int)⟩]/\t<=t'/\t'<=t+40*l.length/\t'=(fC t i l).getLast?.elim t (·.t)
 | [],t,i,x=>⟨t,by simp [fC],Int.le_refl _,by simp,rfl⟩
 | y::r,t,i,x=>by
   obtain ⟨t',h1,h2,h3,h4⟩:=vE r (t+1+((bJ y%40:Nat):Int)) (i+1) x
   have:=Nat.mod_lt (bJ y) (show 0<40 by decide)
   refine ⟨t',?_,by omega,by simp only [List.length_cons];omega,?_⟩
   · simp only [List.cons_append,fC,h1,List.length_cons]
     rw [show i+1+r.length=i+(r.length+1) by omega]
   · rw [h4]
     simp only [fC]
     cases hr:fC (t+1+((bJ y%40:Nat):Int)) (i+1) r with
     | nil=>simp
     | cons a b=>simp [List.getLast?_cons]
theorem pK:∀ (l:List Int) (t:Int) (i:Nat),∀ a∈fC t i l,t<a.t/\a.t<=t+40*l.length/\(i:Int)<=a.v/\a.v<i+l.length
 | [],_,_,a,h=>by cases h
 | x::r,t,i,a,h=>by
   have hm:=Nat.mod_lt (bJ x) (show 0<40 by decide)
   rcases List.mem_cons.1 h with rfl | h
   · simp only [List.length_cons];omega
   · have:=pK r _ _ a h
     simp only [List.length_cons];omega
theorem oe:∀ (l:List Int) (t:Int) (i:Nat) (f:Int),t+40*l.length+f<=1099511627776->cC (t+f) ((fC t i l).map (gA f))=true
 | [],_,_,_,_=>rfl
 | x::r,t,i,f,h=>by
   have hm:=Nat.mod_lt (bJ x) (show 0<40 by decide)
   simp only [List.length_cons] at h
   have h1:=oe r (t+1+((bJ x%40:Nat):Int)) (i+1) f (by omega)
   simp only [fC,List.map_cons,cC,gA,Bool.and_eq_true,decide_eq_true_eq]
   exact ⟨⟨by omega,by omega⟩,h1⟩
theorem zy:∀ {l:List eQ} {a b:Int},a<=b->cC b l=true->cC a l=true
 | [],_,_,_,_=>rfl
 | x::r,a,b,h,hr=>by
   simp only [cC,Bool.and_eq_true,decide_eq_true_eq] at hr ⊢
   exact ⟨⟨by omega,hr.1.2⟩,hr.2⟩
theorem CL {id f:Int} {steps:List Int} (h0:0<=f) (h1:f<=1000000):jj (gQ id f steps):=by
 have hl:((id::steps).take 40).length<=40:=by rw [List.length_take];omega
 have hlen:(dz id f steps).length=((id::steps).take 40).length:=by simp [dz,iy]
 have hpos:0<(dz id f steps).length:=by rw [hlen];simp
 have m1:=Nat.mod_lt (bJ id) (show 0<1000 by decide)
 have m2:=Nat.mod_lt (bJ id) (show 0<7 by decide)
 have DU:∀ a∈dz id f steps,f<a.t/\a.t<=1600+f/\0<=a.v/\a.v<40:=fun a ha=>by
  obtain ⟨b,hb,rfl⟩:=List.mem_map.1 ha
  have:=pK _ _ _ b hb
  simp only [gA]
  omega
 obtain ⟨z,hz⟩:∃ z,(dz id f steps).getLast? = some z:=⟨_,List.getLast?_eq_some_getLast (List.length_pos_iff.1 hpos)⟩
 have xS:=DU z (List.mem_of_getLast? hz)
 have nN:(dz id f steps).getLast?.elim 0 (·.t)=z.t:=by rw [hz];rfl
 refine ⟨by simp only [gQ];omega,by simp only [gQ];omega,h0,by simp only [gQ];rw [nN];omega,by simp only [gQ];rw [nN];omega,List.length_pos_iff.1 hpos,?_,fun a ha => ?_,fun a ha => ?_,fun a ha => ?_⟩
 · show zg (dz id f steps)=true
   unfold zg
   rw [Bool.and_eq_true]
   refine ⟨zy (a := -1) (b:=0+f) (by omega) (oe _ 0 0 f (by omega)),Nat.ble_eq_true_of_le (by rw [hlen];omega)⟩
 · have:=DU a ha
   unfold I6;omega
 · have:=DU a (List.mem_of_getElem? ha)
   show f<=a.t
   omega
 · have hza:z=a:=by
    have h2:(dz id f steps).getLast? = some a:=ha
    rw [hz] at h2;exact Option.some.inj h2
   simp only [gQ]
   rw [nN,hza]
   omega
section
variable {s t u s0:St} {x y b lx bx:S} {l acc:List eQ} {bs:Bs} {p:Nat} {r:Rr} {g:Sg} {is:List Int}
set_option maxHeartbeats 1000000 in
theorem IY (d:Nat) (wf:s.wf) (h:Rd 1 s x is.length (is.map (S.int .i64))) (eH:∀ c,own x=some c->c<s.size) (hl:is.length<=8000) :
 ∃ y t,R (d+1) 76 [Z x,Z .az,I .i64 40] s=some (Z y,t)/\mq s t y (fC 0 0 (is.take 40)):=by
 obtain ⟨j,τ,lp,y,rfl,hF⟩:=aW (f:=sC (R d) 8192)
  (fun q v u=>∃ (k:Nat) (y:S) (T0:Int),q+k=(is.take 40).length/\v=[Z x,Z .az,I .i64 40,Z y,I .i64 T0,I .i64 (k:Nat)]/\mq s u y (fC 0 0 (is.take k))/\T0=(fC 0 0 (is.take k)).getLast?.elim 0 (·.t))
  (fun j u=>∃ y,j = .exit 0 [Z y]/\mq s u y (fC 0 0 (is.take 40))) (by
  rintro q v u ⟨k,y,T0,hq,rfl,hf,hT⟩
  rw [List.length_take] at hq
  have hu:=h.gr eH hf.gr
  have lu:=hu.lens
  by_cases hk:k<is.length
  · by_cases Q5:k<40
    · left
      obtain ⟨v,hv⟩:∃ v,is[k]? = some v:=⟨_,List.getElem?_eq_getElem hk⟩
      obtain ⟨P,ix,ld⟩:=hu.xL (i:=((k:Nat):Int)) (j:=k) (v:=S.int .i64 v) rfl (by rw [List.getElem?_map,hv];rfl)
      have kZ:is.take (k+1)=is.take k++[v]:=by rw [List.take_add_one,hv];rfl
      obtain ⟨t',h1,h2,h3,h4⟩:=vE (is.take k) 0 0 v
      rw [← hT] at h4
      rw [h4] at h1 h2 h3
      have eU:(is.take k).length=k:=by rw [List.length_take];omega
      rw [eU,Nat.zero_add] at h1
      rw [eU] at h3
      have hm:=Nat.mod_lt (bJ v) (show 0<40 by decide)
      have c1:aF .u64 (I .i64 v)=some (I .u64 (bJ v:Nat)):=by rw [aV,rl]
      have r1:af .rem (I .u64 (bJ v:Nat)) (I .u64 40)=some (I .u64 ((bJ v%40:Nat))):=rk .u64 _ 40 (by decide)
      have c3:aF .i64 (I .u64 ((bJ v%40:Nat):Int))=some (I .i64 ((bJ v%40:Nat):Int)):=by rw [aV,qC _ (by omega)]
      have w1:IntKind.i64.wrap (T0+1)=T0+1:=aB _ (by omega) (by omega)
      have w2:IntKind.i64.wrap (T0+1+((bJ v%40:Nat):Int))=T0+1+((bJ v%40:Nat):Int):=aB _ (by omega) (by omega)
      have q1:af .add (I .i64 T0) (I .i64 1)=some (I .i64 (T0+1)):=by rw [dm,w1]
      have q2:af .add (I .i64 (T0+1)) (I .i64 ((bJ v%40:Nat):Int))=some (I .i64 (T0+1+((bJ v%40:Nat):Int))):=by rw [dm,w2]
      have w3:IntKind.i64.wrap ((k:Int)+1)=((k+1:Nat):Int):=by rw [aB _ (by omega) (by omega)];omega
      have c4:¬ ((k:Nat):Int)<0:=by omega
      have c5:((k:Nat):Int)<((is.length:Nat):Int):=by omega
      have c6:((k:Nat):Int)<40:=by omega
      obtain ⟨e,he⟩:∃ e:eQ,e=⟨T0+1+((bJ v%40:Nat):Int),(k:Int)⟩:=⟨_,rfl⟩
      rw [← he] at h1
      have ag:aU (aE [.int .i64 0,.int .i64 0] [(0,1,I .i64 (T0+1+((bJ v%40:Nat):Int))),(1,1,I .i64 (k:Nat))])=some (AS e):=by rw [he];rfl
      obtain ⟨y',u2,u1,nw,ap,f2,z2,Hq,_,_⟩:=mq.lit (e:=e) hf (by rw [iy,eU];omega)
      rw [← h1,← kZ] at f2
      refine ⟨[Z x,Z .az,I .i64 40,Z y',I .i64 (T0+1+((bJ v%40:Nat):Int)),I .i64 ((k+1:Nat):Int)],u2,q-1,?_,by omega,k+1,y',_,by rw [List.length_take];omega,rfl,f2,by rw [kZ,h1,he];simp⟩
      unfold sC
      clear he h1 hT h2 h3 h4
      generalize T0+1+((bJ v%40:Nat):Int)=T2 at *
      generalize T0+1=T1 at *
      generalize ((bJ v%40:Nat):Int)=m1 at *
      generalize ((bJ v:Nat):Int)=m0 at *
      generalize ((k+1:Nat):Int)=K1 at *
      generalize ((k:Nat):Int)=K0 at *
      generalize ((is.length:Nat):Int)=LL at *
      simp [lu,c5,c6,q1,ix,ld,c1,r1,c3,q2,c4,ag,nw,ap,w3]
    · right
      have hkk:k=40:=by omega
      have c5:((k:Nat):Int)<((is.length:Nat):Int):=by omega
      have c6:¬ ((k:Nat):Int)<40:=by omega
      subst hkk
      refine ⟨_,u,?_,(fun v h=>by cases h),y,rfl,hf⟩
      unfold sC
      generalize ((40:Nat):Int)=K0 at *
      generalize ((is.length:Nat):Int)=LL at *
      simp [lu,c5,c6]
  · right
    have hkk:k=is.length:=by omega
    have c5:¬ ((k:Nat):Int)<((is.length:Nat):Int):=by omega
    have Z2:is.take 40=is.take k:=by rw [List.take_of_length_le (by omega),List.take_of_length_le (by omega)]
    rw [Z2]
    refine ⟨_,u,?_,(fun v h=>by cases h),y,rfl,hf⟩
    unfold sC
    generalize ((k:Nat):Int)=K0 at *
    generalize ((is.length:Nat):Int)=LL at *
    simp [lu,c5])
  8192 (is.take 40).length _ s ⟨0,.az,0,by omega,rfl,⟨Gr.refl wf,Ow.nil 2 s,fun c hc=>by cases hc⟩,rfl⟩ (by rw [List.length_take];omega)
 refine ⟨y,τ,?_,hF⟩
 rw [LI]
 unfold f76
 have e0:((0:Nat):Int)=0:=rfl
 rw [e0] at lp
 simp [lp]
end
theorem rZ:∀ (l:List eQ) (k:Nat) (a:eQ) (t':Int),l[k]? = some a->(cells cS l).set (k*2) (.int .i64 t')=cells cS (l.set k ⟨t',a.v⟩)
 | [],k,a,t',h=>by simp at h
 | x::r,0,a,t',h=>by
   simp at h
   subst h
   rfl
 | x::r,k+1,a,t',h=>by
   have ih:=rZ r k a t' (by simpa using h)
   rw [List.set_cons_succ,dC,dC,← ih,show (k+1)*2=k*2+1+1 by omega]
   rfl
theorem sc:∀ (l:List eQ) (k:Nat) (a:eQ) (v':Int),l[k]? = some a->(cells cS l).set (k*2+1) (.int .i64 v')=cells cS (l.set k ⟨a.t,v'⟩)
 | [],k,a,t',h=>by simp at h
 | x::r,0,a,t',h=>by
   simp at h
   subst h
   rfl
 | x::r,k+1,a,t',h=>by
   have ih:=sc r k a t' (by simpa using h)
   rw [List.set_cons_succ,dC,dC,← ih,show (k+1)*2+1=k*2+1+1+1 by omega]
   rfl
section
variable {s t u s0:St} {x y b lx bx:S} {l acc:List eQ} {bs:Bs} {p:Nat} {r:Rr} {g:Sg} {is:List Int}
theorem take_set {α:Type} (l:List α) (n k:Nat) (v:α) (h:k<n):(l.set k v).take n=(l.take n).set k v:=by
 apply List.ext_getElem?
 intro j
 rw [List.getElem?_take,List.getElem?_set,List.getElem?_set,List.getElem?_take]
 by_cases hj:j<n
 · simp [hj,List.length_take]
   by_cases hk:k=j
   · subst hk
     by_cases hl:k<l.length
     · simp [hl];omega
     · simp [hl];omega
   · simp [hk]
 · have:k≠j:=by omega
   simp [hj,this]
theorem mq.qL (h:mq s u y l) {k:Nat} {a:eQ} (hk:l[k]? = some a):∃ c p,av 2 (Z y) (I .i64 (k:Nat))=some (Z (.ptr c p))/\ab (Z (.ptr c p)) u.get=some (I .i64 a.t)/\ab (Z (.ptr c (p+1))) u.get=some (I .i64 a.v) ∧
 (∀ t',∃ u',aw 1 (Z (.ptr c p)) (I .i64 t') u=some (tt,u')/\mq s u' y (l.set k ⟨t',a.v⟩)/\u'.size=u.size/\∀ b,own y≠some b->u'.get b=u.get b) ∧
 (∀ v',∃ u',aw 1 (Z (.ptr c (p+1))) (I .i64 v') u=some (tt,u')/\mq s u' y (l.set k ⟨a.t,v'⟩)/\u'.size=u.size/\∀ b,own y≠some b->u'.get b=u.get b):=by
 have eU:=(List.getElem?_eq_some_iff.1 hk).1
 rcases h.ow.ow with ⟨rfl,h0⟩ | ⟨c,rows,rfl,h0,_⟩ | ⟨c,rows,cap,rfl,hc,hg,hle,kZ⟩
 · omega
 · omega
 · have ix:av 2 (Z (.sl c 0 l.length cap)) (I .i64 (k:Nat))=some (Z (.ptr c (0+k*2))):=cZ rfl eU
   rw [Nat.zero_add] at ix
   have mv:=h.gr.wf.lt hg
   have yK:=h.new c rfl
   have g0:rows[k*2]? = some (.int .i64 a.t):=by
    have:=lM (f:=0) oO hk (by omega)
    rw [← kZ,List.getElem?_take_of_lt (by omega)] at this
    exact this
   have g1:rows[k*2+1]? = some (.int .i64 a.v):=by
    have:=lM (f:=1) oO hk (by omega)
    rw [← kZ,List.getElem?_take_of_lt (by omega)] at this
    exact this
   have mk:∀ (j:Nat) (v:S) (l':List eQ),j<l.length*2->l'.length=l.length->(cells cS l).set j v=cells cS l'->mq s (u.set c (.cells true (rows.set j v))) (.sl c 0 l.length cap) l':=by
    intro j v l' hj qX gK
    refine ⟨⟨St.wf_set h.gr.wf mv _,by simpa using h.gr.2.1,fun b hb=>by rw [St.aj _ _ (by omega)];exact h.gr.2.2 b hb⟩,⟨dJ oO _,.inr (.inr ⟨c,_,cap,by rw [qX],?_,St.ar _ _ _,?_,?_⟩)⟩,fun b hb=>by cases hb;simpa using yK⟩
    · rw [qX];exact hc
    · rw [List.length_set,qX];exact hle
    · rw [qX,take_set _ _ _ _ hj,kZ,gK]
   refine ⟨c,k*2,ix,ai hg g0,ai hg g1,fun t'=>⟨_,aT hg (by omega),mk _ _ _ (by omega) (by simp) (rZ l k a t' hk),by simp,fun b hb=>St.aj _ _ fun e=>hb (by rw [e];rfl)⟩,
    fun v'=>⟨_,aT hg (by omega),mk _ _ _ (by omega) (by simp) (sc l k a v' hk),by simp,fun b hb=>St.aj _ _ fun e=>hb (by rw [e];rfl)⟩⟩
set_option maxHeartbeats 2000000 in
theorem Eb (d:Nat) {A T8:T} {f:Int} (h:mq s u y l) (R5:0<=f) (PD:f<=1000000) (ht:∀ a∈l,0<=a.t/\a.t<=100000/\0<=a.v/\a.v<1000000000) (hl:l.length<=1000) :
 ∃ u',loops (sA (R d) 8192) 8192 [A,I .i64 f,T8,Z y,I .i64 0] u=some (.exit 0 [A,I .i64 f,T8,Z y],u')/\mq s u' y (l.map (gA f))/\u'.size=u.size/\∀ b,own y≠some b->u'.get b=u.get b:=by
 obtain ⟨j,τ,lp,rfl,h1,h2,h3⟩:=aW (f:=sA (R d) 8192)
  (fun q v w=>∃ (k:Nat),q+k=l.length/\v=[A,I .i64 f,T8,Z y,I .i64 (k:Nat)]/\mq s w y ((l.take k).map (gA f)++l.drop k)/\w.size=u.size/\∀ b,own y≠some b->w.get b=u.get b)
  (fun j w=>j = .exit 0 [A,I .i64 f,T8,Z y]/\mq s w y (l.map (gA f))/\w.size=u.size/\∀ b,own y≠some b->w.get b=u.get b) (by
  rintro q v w ⟨k,hq,rfl,hw,hz,hkp⟩
  have hlen:((l.take k).map (gA f)++l.drop k).length=l.length:=by simp;omega
  have lw:=hw.rd.lens
  rw [hlen] at lw
  by_cases hk:k<l.length
  · left
    obtain ⟨a,ha⟩:∃ a,l[k]? = some a:=⟨_,List.getElem?_eq_getElem hk⟩
    have hkt:(l.take k).length=k:=by rw [List.length_take];omega
    have mE:l.drop k=a::l.drop (k+1):=by
     rw [List.drop_eq_getElem_cons hk]
     rw [List.getElem?_eq_getElem hk] at ha
     rw [Option.some.inj ha]
    have G9:((l.take k).map (gA f)++l.drop k)[k]? = some a:=by
     rw [mE,List.getElem?_append_right (by simp;omega),show k-((l.take k).map (gA f)).length=0 by simp;omega]
     rfl
    obtain ⟨t0,t1,v0,v1⟩:=ht a (List.mem_of_getElem? ha)
    obtain ⟨c,p,ix,lt,lv,st0,_⟩:=hw.qL G9
    have w1:IntKind.i64.wrap (a.t+f)=a.t+f:=aB _ (by omega) (by omega)
    obtain ⟨w2,e2,Ht,z2,k2⟩:=st0 (a.t+f)
    have ha2:(((l.take k).map (gA f)++l.drop k).set k ⟨a.t+f,a.v⟩)[k]? = some ⟨a.t+f,a.v⟩:=by
     rw [List.getElem?_set]
     simp [hlen]
     omega
    obtain ⟨c',p',EV,_,Qc,_,xB⟩:=Ht.qL ha2
    have QW:c'=c/\p'=p:=by
     rw [ix] at EV
     injection EV with h;injection h with h;injection h with h;injection h with h1 h2
     exact ⟨h1.symm,h2.symm⟩
    obtain ⟨rfl,rfl⟩:=QW
    have r1:af .rem (I .i64 a.v) (I .i64 1000000000)=some (I .i64 a.v):=by
     rw [rj _ _ _ (by decide),Int.tmod_eq_emod_of_nonneg v0,Int.emod_eq_of_lt v0 v1]
    obtain ⟨w3,e3,hw3,z3,k3⟩:=xB a.v
    have gK:(((l.take k).map (gA f)++l.drop k).set k ⟨a.t+f,a.v⟩).set k ⟨a.t+f,a.v⟩=(l.take (k+1)).map (gA f)++l.drop (k+1):=by
     rw [List.set_set,mE,List.set_append_right _ _ (by simp;omega)]
     have:k-((l.take k).map (gA f)).length=0:=by simp;omega
     rw [this,List.set_cons_zero,List.take_add_one,ha]
     simp [gA]
    have c0:((k:Nat):Int)<((l.length:Nat):Int):=by omega
    have w4:IntKind.i64.wrap ((k:Int)+1)=((k+1:Nat):Int):=by rw [aB _ (by omega) (by omega)];omega
    refine ⟨[A,I .i64 f,T8,Z y,I .i64 ((k+1:Nat):Int)],w3,q-1,?_,by omega,k+1,by omega,rfl,by rw [← gK];exact hw3,by omega,fun b hb=>by rw [k3 b hb,k2 b hb,hkp b hb]⟩
    unfold sA
    generalize ((k+1:Nat):Int)=K1 at *
    generalize ((k:Nat):Int)=K0 at *
    generalize ((l.length:Nat):Int)=LL at *
    simp [lw,c0,ix,lt,w1,e2,Qc,r1,e3,w4]
  · right
    have hkk:k=l.length:=by omega
    subst hkk
    rw [List.take_length,List.drop_length,List.append_nil] at hw
    refine ⟨_,w,?_,(fun v h=>by cases h),rfl,hw,hz,hkp⟩
    unfold sA
    generalize ((l.length:Nat):Int)=LL at *
    simp [lw])
  8192 l.length _ u ⟨0,by omega,rfl,by simpa using h,rfl,fun _ _=>rfl⟩ (by omega)
 exact ⟨τ,lp,h1,h2,h3⟩
set_option maxHeartbeats 2000000 in
theorem H6 (d:Nat) {id f:Int} (wf:s.wf) (h:Rd 1 s x is.length (is.map (S.int .i64))) (eH:∀ c,own x=some c->c<s.size) (hl:is.length<=1000) (R5:0<=f) (PD:f<=1000000) :
 ∃ y t,R (d+2) 21 [I .i64 id,I .i64 f,Z x,Z .az] s=some (AG (gQ id f is) y,t)/\mq s t y (dz id f is):=by
 obtain ⟨s1,cX,g1,b1,z1⟩:=JZ wf
 have L2:=Fr.lit 1 g1.wf (n:=1) (vs:=[.int .i64 id]) rfl
 obtain ⟨s2,pd⟩:∃ s2,s2=s1.push (.cells true [.int .i64 id]):=⟨_,rfl⟩
 rw [← pd] at L2
 have zZ:aK s1 (aR 1 (aE [.int .i64 0] [(0,1,I .i64 id)]))=some (Z (.sl s1.size 0 1 (.known 1)),s2):=by rw [pd];simp [aK,aR,aE,V.cells,aO]
 have hx2:=h.gr eH (g1.trans L2.gr)
 obtain ⟨y3,s3,e3,f3,z3,k3⟩:=L2.append (by_:=8) (by omega) hx2.src (by simp) (by omega)
 have R3:[S.int .i64 id]++is.map (S.int .i64)=(id::is).map (S.int .i64):=rfl
 rw [R3,show 1+is.length=(id::is).length by simp;omega] at f3
 obtain ⟨y4,s4,e4,f4⟩:=IY d f3.gr.wf f3.rd (fun c hc=>(f3.new c hc).2) (by simp;omega)
 have DU:=pK ((id::is).take 40) 0 0
 have aak:((id::is).take 40).length<=40:=by rw [List.length_take];omega
 obtain ⟨s5,lp,f5,z5,k5⟩:=Eb (A:=I .i64 id) (T8:=Z (.ptr s.size 0)) (d+1) f4 R5 PD (fun a ha=>by have:=DU a ha;omega) (by rw [iy];omega)
 have Ww:=f4.gr.2.1
 have Wv:=f3.gr.2.1
 have t5:s5.get s.size=some (.cells true [.int .i64 0,.int .i64 0,.int .i64 0,.int .i64 0,.az,.az]):=by
  rw [k5 _ (fun e=>by have:=(f4.new _ e).1;omega),f4.gr.2.2 _ (by omega),f3.gr.2.2 _ (by omega)];exact b1
 have hmk:(fC 0 0 ((id::is).take 40)).map (gA f)=dz id f is:=rfl
 rw [hmk] at f5
 have hpos:0<(dz id f is).length:=by simp [dz,iy]
 have hlen:(dz id f is).length<=40:=by simp [dz,iy];omega
 obtain ⟨z,hz⟩:∃ z,(dz id f is)[(dz id f is).length-1]? = some z:=⟨_,List.getElem?_eq_getElem (by omega)⟩
 have hzl:(dz id f is).getLast?.elim 0 (·.t)=z.t:=by rw [List.getLast?_eq_getElem?,hz];rfl
 have hok:=CL (id:=id) (steps:=is) R5 PD
 have xS:0<=z.t/\z.t<=2000000:=by
  obtain ⟨b,hb,rfl⟩:=List.mem_map.1 (List.mem_of_getElem? hz)
  have:=DU b hb
  simp only [gA]
  omega
 obtain ⟨cz,pz,iz,_,lz,_⟩:=oG.Dm f5.rd (n:=(((dz id f is).length:Nat):Int)-1) (j:=(dz id f is).length-1) (by omega) hz
 have ll:=f5.rd.lens
 have w1:IntKind.i64.wrap ((((dz id f is).length:Nat):Int)-1)=(((dz id f is).length:Nat):Int)-1:=aB _ (by omega) (by omega)
 have c1:aF .u64 (I .i64 id)=some (I .u64 (bJ id:Nat)):=by rw [aV,rl]
 have m1:=Nat.mod_lt (bJ id) (show 0<1000 by decide)
 have m2:=Nat.mod_lt (bJ id) (show 0<7 by decide)
 have r1:af .rem (I .u64 (bJ id:Nat)) (I .u64 1000)=some (I .u64 ((bJ id%1000:Nat))):=rk .u64 _ 1000 (by decide)
 have r2:af .rem (I .u64 (bJ id:Nat)) (I .u64 7)=some (I .u64 ((bJ id%7:Nat))):=rk .u64 _ 7 (by decide)
 have c2:aF .i64 (I .u64 ((bJ id%1000:Nat):Int))=some (I .i64 ((bJ id%1000:Nat):Int)):=by rw [aV,qC _ (by omega)]
 have c3:aF .i64 (I .u64 ((bJ id%7:Nat):Int))=some (I .i64 ((bJ id%7:Nat):Int)):=by rw [aV,qC _ (by omega)]
 have a1:af .add (I .i64 1) (I .i64 ((bJ id%1000:Nat):Int))=some (I .i64 (1+((bJ id%1000:Nat):Int))):=by rw [dm,aB _ (by omega) (by omega)]
 have a2:af .add (I .i64 z.t) (I .i64 1)=some (I .i64 (z.t+1)):=by rw [dm,aB _ (by omega) (by omega)]
 have a3:af .add (I .i64 (z.t+1)) (I .i64 ((bJ id%7:Nat):Int))=some (I .i64 (z.t+1+((bJ id%7:Nat):Int))):=by rw [dm,aB _ (by omega) (by omega)]
 have ag:aU (aE [.int .i64 0,.int .i64 0,.int .i64 0,.int .i64 0,.az,.az] [(0,1,I .i64 (1+((bJ id%1000:Nat):Int))),(2,1,I .i64 f),(3,1,I .i64 (z.t+1+((bJ id%7:Nat):Int))),(4,1,Z y4)])=some (AG (gQ id f is) y4):=by
  have:gQ id f is=⟨1+((bJ id%1000:Nat):Int),f,z.t+1+((bJ id%7:Nat):Int),dz id f is⟩:=by unfold gQ;rw [hzl]
  rw [this];rfl
 obtain ⟨s6,Cz⟩:∃ s6,s6=s5.set s.size (.cells true (cG (gQ id f is) y4)):=⟨_,rfl⟩
 have zG:aw 6 (Z (.ptr s.size 0)) (AG (gQ id f is) y4) s5=some (tt,s6):=by rw [Cz];exact rE t5 rfl
 have l6:=px (m:=s6.get) (by rw [Cz];exact St.ar _ _ _:s6.get s.size=some (.cells true (cG (gQ id f is) y4)))
 refine ⟨y4,s6,?_,⟨?_,f5.ow.keep fun c hc => ?_,fun c hc => ?_⟩⟩
 · rw [Lf]
   unfold f21
   clear hzl hok hz hmk
   generalize R (d+1)=rr at *
   generalize s.size=ss at *
   generalize 1+((bJ id%1000:Nat):Int)=A1 at *
   generalize z.t+1+((bJ id%7:Nat):Int)=A2 at *
   generalize z.t+1=A3 at *
   generalize ((bJ id%1000:Nat):Int)=A4 at *
   generalize ((bJ id%7:Nat):Int)=A5 at *
   generalize ((bJ id:Nat):Int)=A6 at *
   generalize (((dz id f is).length:Nat):Int)=LL at *
   simp [cX,zZ,e3,e4,lp,c1,r1,c2,a1,ll,w1,iz,lz,a2,r2,c3,a3,ag,zG,l6,rC,aQ,bI]
 · have g5:=f5.gr
   rw [Cz]
   exact ⟨St.wf_set g5.wf (g5.wf.lt t5) _,by simp;omega,fun c hc=>by rw [St.aj _ _ (by omega),k5 c (fun e=>by have:=(f4.new _ e).1;omega),f4.gr.2.2 c (by omega),f3.gr.2.2 c (by omega),g1.2.2 c hc]⟩
 · have:=(f4.new c hc).1
   rw [Cz,St.aj _ _ (by omega)]
 · have:=f4.new c hc
   have:s6.size=s5.size:=by rw [Cz];simp
   omega
end
def Qv (k:Nat):Nat:=(bW (gQ (k:Int) (k:Int) [3,4])).length+(aX (bp (gq (gQ (k:Int) (k:Int) [3,4])))).length
set_option maxRecDepth 100000 in
theorem G4:Nat.ble 2000 (((List.range 61).map Qv).sum)=true:=by kernel_rfl
theorem JT {g:Sg} (h:jj g):bT (gq g)=true:=by
 obtain ⟨h1,h2,h3,h4,h5,_⟩:=h
 unfold bT
 rw [if_neg (by show ¬ ((0:Int)<0\/1073741824<(0:Int));omega),if_pos (show (gq g).k=1 from rfl)]
 show (decide (([]:Bs)=[])&&my g.i&&decide ((0:Int)<=0)&&decide ((0:Int)<4)&&decide (0<=g.f)&&decide (g.f<g.o)&&decide (g.o<=1099511627776))=true
 have hi:my g.i=true:=by simp [my,h1,h2]
 rw [hi,decide_eq_true h3,decide_eq_true h4,decide_eq_true h5]
 rfl
theorem Fx {g:Sg} (h:jj g) {q:FoS} (hw:q.w=0) (he:g.i∉q.cW):bz q (gq g)=0:=by
 unfold bz
 rw [if_pos (JT h),if_neg (fun hh=>he hh.2),if_neg (fun hh=>by have:=hh.1;cases this),if_neg (by rw [hw];show ¬ (0:Int)<0;omega)]
theorem Jk {vs:List FV} {v:FV} (h:v∈vs):v.l.length<=dx vs:=by
 unfold dx
 induction vs with
 | nil=>cases h
 | cons a r ih =>
   rw [List.map_cons,List.sum_cons]
   rcases List.mem_cons.1 h with rfl | h
   · omega
   · have:=ih h;omega
theorem Jl {vs:List FV} (hnd:(vs.map (·.nm)).Nodup) {v:FV} (hv:v∈vs) {g:FV->FV} {n:Nat} (hg:(g v).l.length=v.l.length+n):dx (fL v.nm g vs)=dx vs+n:=by
 induction vs with
 | nil=>cases hv
 | cons a r ih =>
   rw [List.map_cons,List.nodup_cons] at hnd
   have e1:fL v.nm g (a::r)=(if a.nm=v.nm then g a else a)::fL v.nm g r:=rfl
   have e2:∀ (x:FV) (xs:List FV),dx (x::xs)=x.l.length+dx xs:=fun x xs=>by simp [dx]
   rw [e1,e2,e2]
   rcases List.mem_cons.1 hv with rfl | hv
   · rw [if_pos rfl,hg,ou]
     · omega
     · intro w hw e
       exact hnd.1 (by rw [← e];exact List.mem_map_of_mem hw)
   · have hne:a.nm≠v.nm:=fun e=>hnd.1 (by rw [e];exact List.mem_map_of_mem hv)
     rw [if_neg hne,ih hnd.2 hv]
     omega
theorem EG {vs:List FV} (hnd:(vs.map (·.nm)).Nodup) (bs:Bs):dx (dW bs vs)=dx vs+bs.length:=by
 unfold dW
 split
 · rename_i hh
   obtain ⟨v,hv,e⟩:=gx.1 hh
   rw [← e]
   exact Jl hnd hv (by simp)
 · rw [tO];simp [dx]
theorem DN (bs:Bs) (vs:List FV):(dW bs vs).length<=vs.length+1:=by
 unfold dW
 split
 · simp [fL]
 · simp
theorem AL {vs:List FV} {l:List bA} {sure:Nat} (h:Ag vs l sure):(aD l).length<=dx vs:=by
 rcases h with ⟨v,hv,_,a2,_⟩ | ⟨_,rfl,_⟩
 · have:=Jk hv
   rw [a2,ng] at this
   exact this
 · simp [aD]
section
variable {ρ ρ':Nat->Nat} {s t u:St} {D:oH} {room:Int} {fs fs':List Fl} {l es:List bA} {q:FoS} {sure:Nat} {i m:Nat} {e:bA} {y:S} {bs:Bs} {kl:List Int} {vs:List FV}
theorem FM (wf:s.wf) (l:Bs):∃ t,aK s (td (Z (.str l)))=some (Z (.sl s.size 0 l.length (.grown 1)),t)/\Gr s t/\RB t (.sl s.size 0 l.length (.grown 1)) l/\t.size=s.size+1:=by
 refine ⟨s.push (.cells false (U l)),rfl,Gr.push wf _,⟨by simp,?_,rfl⟩,by simp⟩
 exact .inr ⟨s.size,0,_,false,U l,rfl,St.aq _ _,by simp,by rw [List.drop_zero];exact List.take_of_length_le (by simp)⟩
theorem tK (d:Nat) (h:aY ρ s D room fs l q sure) (hq:q.l.length<=8000):∃ y t,R (d+3) 27 [Z (.ptr D.p 0)] s=some (Z y,t)/\Fr 5 s t y q.l.length (cells cI q.l):=by
 have np:iC .p (Z (.ptr D.p 0)) (Z .bU)=some (B false):=rfl
 have q3:ab (Z (.ptr D.p 3)) s.get=some (Z (.ptr D.b 0)):=ai h.st rfl
 obtain ⟨y,t,e1,f1⟩:=pf d h.hf hq
 refine ⟨y,t,?_,f1⟩
 rw [Lo]
 unfold f27
 generalize R (d+2)=rr at *
 simp [np,q3,e1]
structure tW (s0:St) (n:Nat) (D:oH) (u:St) (k:Nat) (ρ:Nat->Nat) (E:oH) (fs:List Fl) (l:List bA) (q:FoS):Prop where
 st:aY ρ u E n fs l q 0
 iv:gU (cu fs) l q 0
 ll:l.length=k
 ql:q.l.length=k
 fl:fs.length<=k+1
 tt:dx (cu fs)=((List.range k).map Qv).sum
 le:dx (cu fs)<=n
 ev:∀ a∈q.cW,a<=(k:Int)
 bl:E.p=D.p/\E.i=D.i/\E.m=D.m
theorem tW.lt {s0:St} {n k:Nat} {E:oH} (h:tW s0 n D u k ρ E fs l q) (hn:n<2000):k<61:=by
 apply Nat.lt_of_not_le
 intro hk
 have h1:=Nat.le_of_ble_eq_true G4
 have h2:((List.range 61).map Qv).sum<=((List.range k).map Qv).sum:=by
  obtain ⟨j,rfl⟩:∃ j,k=61+j:=⟨k-61,by omega⟩
  rw [List.range_add,List.map_append,List.sum_append]
  omega
 have h3:=h.tt
 have h4:=h.le
 omega
set_option maxHeartbeats 2000000 in
theorem DJ (d:Nat) {s0:St} {n k:Nat} {E:oH} (h:tW s0 n D u k ρ E fs l q) (hn:n<2000) {N0 DD:T} :
 (∃ u' ρ' fs',sB (R (d+14)) 8192 [N0,DD,Z (.ptr D.p 0),I .i64 (k:Nat),I .i64 (k:Nat)] u=some (.exit 0 [N0,DD,Z (.ptr D.p 0),I .i64 (k:Nat)],u')/\tW s0 n D u' k ρ' E fs' l q) ∨
 ∃ u' ρ' E' fs' l' q',sB (R (d+14)) 8192 [N0,DD,Z (.ptr D.p 0),I .i64 (k:Nat),I .i64 (k:Nat)] u=some (.normal [N0,DD,Z (.ptr D.p 0),I .i64 ((k+1:Nat):Int),I .i64 ((k+1:Nat):Int)],u')/\tW s0 n D u' (k+1) ρ' E' fs' l' q':=by
 have hk:=h.lt hn
 obtain ⟨hst,JC,eC,xR,hfl,Wq,hle,cM,⟨Vr,Yw,Jz⟩⟩:=h
 obtain ⟨g,hg⟩:∃ g,g=gQ (k:Int) (k:Int) [3,4]:=⟨_,rfl⟩
 have hok:jj g:=by rw [hg];exact CL (by omega) (by omega)
 have JB:g.i=((k+1:Nat):Int):=by
  rw [hg]
  show 1+((bJ (k:Int)%1000:Nat):Int)=_
  have:bJ (k:Int)=k:=by
   have h1:=rl (k:Int)
   rw [wrap64 _ (by omega)] at h1
   omega
  rw [this,Nat.mod_eq_of_lt (by omega)]
  omega
 obtain ⟨u1,Hq⟩:∃ u1,u1=u.push (.cells true [.int .i64 3,.int .i64 4]):=⟨_,rfl⟩
 have cX:aK u (aR 2 (aE [.int .i64 0,.int .i64 0] [(0,1,I .i64 3),(1,1,I .i64 4)]))=some (Z (.sl u.size 0 2 (.known 2)),u1):=by rw [Hq];rfl
 have L1:=Fr.lit 1 hst.qA (n:=2) (vs:=[.int .i64 3,.int .i64 4]) rfl
 rw [← Hq] at L1
 have R1:Rd 1 u1 (.sl u.size 0 2 (.known 2)) ([3,4]:List Int).length (([3,4]:List Int).map (S.int .i64)):=L1.rd
 obtain ⟨y2,u2,e2,f2⟩:=H6 (d+12) (id:=(k:Int)) (f:=(k:Int)) L1.gr.wf R1 (fun c hc=>(L1.new c hc).2) (by decide) (by omega) (by omega)
 rw [← hg] at e2
 have hgl:dz (k:Int) (k:Int) [3,4]=g.l:=by rw [hg];rfl
 rw [hgl] at f2
 obtain ⟨u3,e3,g3⟩:=zA (d+11) f2.gr.wf hok f2.rd (fun c hc=>(f2.new c hc).2)
 obtain ⟨u4,Aa,g4,r4,z4⟩:=FM g3.wf (bW g)
 have Jy:=((L1.gr.trans f2.gr).trans g3).trans g4
 have h4:=hst.k9 Jy
 have hz:u.size<=u3.size:=by have:=L1.gr.2.1;have:=f2.gr.2.1;have:=g3.2.1;omega
 have PE:=kS _ hst.ok.1
 have hnc:tY fs:=⟨fun f hf=>by
  rcases JC.nm (vw f) (List.mem_map_of_mem hf) with e | ⟨k,_,_,e⟩
  · rw [show f.nm=dE from e];decide
  · rw [show f.nm=bo k from e];have:=jD (k:=k);omega,by omega⟩
 have hne:g.i∉q.cW:=fun hm=>by have:=cM _ hm;omega
 have ha:=Fx hok JC.w0 hne
 have hno:fS (bo (k+1)) (cu fs)=false:=dP.2 fun v hv e=>by
  obtain ⟨a,kG,na⟩:=JC.own v hv (by rw [e];exact dr _)
  have hr:=mj (JC.JJ a kG)
  have:=lY (i:=k+1) ⟨by omega,by omega⟩ (j:=a.i.toNat) ⟨by omega,by omega⟩ (by rw [← e,na])
  have:=cM _ (hst.ok.2.1.ev a kG)
  omega
 have yJ:=lX.2 JC.lg
 obtain ⟨u5,c5,e5,I5⟩:=install_run d h4 yJ hnc (by omega) hok JB (by omega) (by omega) r4 (fun c hc=>by cases hc;exact ⟨by omega,by rw [qQ hz];decide⟩) (fun _=>hno) (by omega) (by omega)
 rw [Vr] at e5
 have c0:((k:Nat):Int)<150:=by omega
 have w1:IntKind.i64.wrap ((k:Int)+1)=((k+1:Nat):Int):=by rw [aB _ (by omega) (by omega)];omega
 have Wp:(bW g).length+(aX (bp (gq g))).length=Qv k:=by unfold Qv;rw [← hg]
 cases I5 with
 | no H hv hk7 hc0 hc =>
   left
   have hc8:c5=8:=by
    rcases hc with hc | hc
    · rw [hc] at hc0;exact absurd ha hc0
    · exact hc.1
   rename_i ρ' fs'
   refine ⟨u5,ρ',fs',?_,H,by rw [hv];exact JC,eC,xR,by have:=congrArg List.length hv;rw [gm,gm] at this;omega,by rw [hv];exact Wq,by rw [hv];exact hle,cM,⟨Vr,Yw,Jz⟩⟩
   rw [hc8] at e5
   unfold sB
   simp only [Nat.add_assoc,Nat.reduceAdd] at e2 e3
   generalize R (d+14)=rr at *
   generalize ((k:Nat):Int)=K0 at *
   simp [c0,cX,e2,e3,ah,Aa,e5]
 | ok H PJ hv hk7 hD aac hfit =>
   right
   rename_i ρ' D' fs'
   have PQ:=JC.inst hst.ok.2.1 hok JB (by omega) (by omega) ha
   rw [← hv] at PQ
   have hnd:((cu fs++[(⟨bo (k+1),U (bW g),(bW g).length⟩:FV)]).map (·.nm)).Nodup:=by
    rw [List.map_append,List.nodup_append]
    refine ⟨JC.nd,by simp,fun a G9 b hb e => ?_⟩
    simp at hb
    obtain ⟨v,uq,lh⟩:=List.mem_map.1 G9
    exact dP.1 hno v uq (by rw [lh,e,hb])
   have ht2:dx (cu fs')=dx (cu fs)+Qv k:=by
    rw [hv,EG hnd,tO]
    simp [dx,← Wp]
    omega
   have hl2:fs'.length<=k+2:=by
    have h1:=congrArg List.length hv
    rw [gm] at h1
    cases hh:fS dE (cu fs) with
    | true =>
      have h3:fS dE (cu fs++[(⟨bo (k+1),U (bW g),(bW g).length⟩:FV)])=true:=by
       unfold fS at hh ⊢
       rw [List.any_append,hh];rfl
      unfold dW at h1
      rw [if_pos h3] at h1
      unfold fL at h1
      rw [List.length_map,List.length_append,gm] at h1
      simp at h1
      omega
    | false =>
      have SQ:fs.length=0:=by
       apply Nat.eq_zero_of_not_pos
       intro hpos
       obtain ⟨f,hf⟩:∃ f,f∈fs:=⟨fs[0],List.getElem_mem hpos⟩
       have Rg:vw f∈cu fs:=List.mem_map_of_mem hf
       obtain ⟨a,kG,_⟩:=JC.own (vw f) Rg (dP.1 hh _ Rg)
       rcases JC.lg with ⟨v,uq,a1,_⟩ | ⟨_,a2,_⟩
       · exact absurd a1 (dP.1 hh v uq)
       · rw [a2] at eC
         have:k=0:=by simpa using eC.symm
         rw [this] at xR
         have:=List.eq_nil_of_length_eq_zero xR
         rw [this] at kG;cases kG
      have h2:=DN (aX (bp (gq g))) (cu fs++[(⟨bo (k+1),U (bW g),(bW g).length⟩:FV)])
      rw [List.length_append,gm] at h2
      simp at h2
      omega
   refine ⟨u5,ρ',D',fs',_,_,?_,H,PQ,by simp [eC],?_,?_,?_,by omega,?_,?_⟩
   · unfold sB
     simp only [Nat.add_assoc,Nat.reduceAdd] at e2 e3
     generalize R (d+14)=rr at *
     generalize ((k+1:Nat):Int)=K1 at *
     generalize ((k:Nat):Int)=K0 at *
     simp [c0,cX,e2,e3,ah,Aa,e5,w1]
   · show (nO q.l (gZ g)).length=_
     rw [HB,xR]
   · omega
   · rw [ht2,Wq,List.range_succ,List.map_append,List.sum_append]
     simp
   · intro a ham
     have:a∈q.cW++[g.i]:=ham
     rcases List.mem_append.1 this with h | h
     · have:=cM a h;omega
     · rw [List.mem_singleton] at h;rw [h,JB];omega
   · exact ⟨by rw [hD.1,Vr],by rw [hD.2.1,Yw],by rw [hD.2.2,Jz]⟩
end
theorem vO {n:Bs} {g:FV->FV} (hg:∀ v,(g v).l.length=v.l.length):∀ vs:List FV,dx (fL n g vs)=dx vs
 | []=>rfl
 | a::r=>by
   have ih:=vO hg r (n:=n)
   have e1:fL n g (a::r)=(if a.nm=n then g a else a)::fL n g r:=rfl
   have e2:∀ (x:FV) (xs:List FV),dx (x::xs)=x.l.length+dx xs:=fun x xs=>by simp [dx]
   rw [e1,e2,e2,ih]
   split
   · rw [hg]
   · rfl
section
variable {ρ ρ':Nat->Nat} {s t u s0:St} {D E:oH} {room:Int} {fs fs':List Fl} {l es:List bA} {q:FoS} {sure:Nat} {i m n k:Nat} {e:bA} {y:S} {bs:Bs} {kl:List Int} {vs:List FV}
theorem DI (d:Nat) (h:tW s0 n D u 0 ρ E fs l q) (hn:n<2000) {N0 DD:T}:∃ u' k ρ' E' fs' l' q',loops (sB (R (d+14)) 8192) 8192 [N0,DD,Z (.ptr D.p 0),I .i64 0,I .i64 0] u=some (.exit 0 [N0,DD,Z (.ptr D.p 0),I .i64 (k:Nat)],u')/\tW s0 n D u' k ρ' E' fs' l' q':=by
 obtain ⟨j,t,lp,k,ρ',E',fs',l',q',rfl,H⟩:=aW (f:=sB (R (d+14)) 8192)
  (fun f v u=>∃ k ρ E fs l q,f+k=61/\v=[N0,DD,Z (.ptr D.p 0),I .i64 ((k:Nat):Int),I .i64 ((k:Nat):Int)]/\tW s0 n D u k ρ E fs l q)
  (fun j u=>∃ k ρ E fs l q,j = .exit 0 [N0,DD,Z (.ptr D.p 0),I .i64 ((k:Nat):Int)]/\tW s0 n D u k ρ E fs l q) (by
  rintro f v u ⟨k,ρ,E,fs,l,q,hf,rfl,H⟩
  have hk:=H.lt hn
  rcases DJ d H hn (N0:=N0) (DD:=DD) with ⟨u',ρ',fs',e,H'⟩ | ⟨u',ρ',E',fs',l',q',e,H'⟩
  · exact .inr ⟨_,u',e,(fun v h=>by cases h),k,ρ',E,fs',l,q,rfl,H'⟩
  · exact .inl ⟨_,u',f-1,e,by omega,k+1,ρ',E',fs',l',q',by omega,rfl,H'⟩)
  8192 61 _ u ⟨0,ρ,E,fs,l,q,rfl,rfl,h⟩ (by decide)
 exact ⟨t,k,ρ',E',fs',l',q',lp,H⟩
set_option maxHeartbeats 4000000 in
theorem Ex (d:Nat) (wf:s.wf) (n0:Int):∃ t,R (d+15) 5 [I .i64 n0] s=some (B true,t):=by
 have hm:=Nat.mod_lt (bJ n0) (show 0<1800 by decide)
 obtain ⟨n,hn⟩:∃ n,n=200+bJ n0%1800:=⟨_,rfl⟩
 have c1:aF .u64 (I .i64 n0)=some (I .u64 (bJ n0:Nat)):=by rw [aV,rl]
 have r1:af .rem (I .u64 (bJ n0:Nat)) (I .u64 1800)=some (I .u64 ((bJ n0%1800:Nat))):=rk .u64 _ 1800 (by decide)
 have c3:aF .i64 (I .u64 ((bJ n0%1800:Nat):Int))=some (I .i64 ((bJ n0%1800:Nat):Int)):=by rw [aV,qC _ (by omega)]
 have a1:af .add (I .i64 200) (I .i64 ((bJ n0%1800:Nat):Int))=some (I .i64 (n:Nat)):=by rw [dm,aB _ (by omega) (by omega),hn];rfl
 obtain ⟨s1,e1,k1,g1⟩:=FU (room:=(n:Int)) (d+13) wf (by omega) (by omega)
 obtain ⟨Ca,Hz⟩:∃ Ca:Nat->Nat,Ca=fun c=>if c<s.size then 9 else 0:=⟨_,rfl⟩
 have Zf:∀ c,s.size<=c->Ca c=0:=fun c hc=>by rw [Hz];exact if_neg (by omega)
 have r0:kA []=([],0):=rfl
 obtain ⟨XU,D,T7,s2,e2,h2,v2,⟨hi2,PM⟩,k2⟩:=uY (ρ:=Ca) (d+1) k1 (bs:=[]) ⟨fun v hv=>(by cases hv),fun _=>rfl⟩ (fun v hv=>(by cases hv)) (by simp) (Zf _ (by omega)) (Zf _ (Nat.le_refl _)) (fun f hf=>(by cases hf)) (by decide) r0 rfl (by decide) rfl (fun a ha=>(by cases ha)) (by decide) (fun e he=>(by cases he)) (by decide)
 have SJ:cu T7=[]:=v2
 have hI:gU (cu T7) [] kT 0:=by
  rw [SJ]
  refine ⟨.inr ⟨fun v hv=>(by cases hv),rfl,rfl⟩,fun v hv=>(by cases hv),fun a ha=>(by cases ha),fun v hv=>(by cases hv),fun n _ hn q' pV a ha => ?_,rfl,rfl,by simp,Nat.le_refl _⟩
  have:n=0:=by simpa using hn
  subst this
  cases pV
  cases ha
 have aag:T7.length=0:=by
  have:=congrArg List.length SJ
  rw [gm] at this
  simpa using this
 have HF:tW s n D s2 0 XU D T7 [] kT:=⟨h2,hI,rfl,rfl,by omega,by rw [SJ];rfl,by rw [SJ];exact Nat.zero_le _,fun a ha=>(by cases ha),⟨rfl,rfl,rfl⟩⟩
 obtain ⟨s3,k,ρ3,E,Ve,l3,q3,lp,H3⟩:=DI d HF (by omega) (N0:=I .i64 (n:Nat)) (DD:=Z (.ptr (s.size+1) 0))
 have hk:=H3.lt (by omega)
 obtain ⟨h3,WG,ll3,Zd,fl3,tt3,UC,ev3,⟨X9,X8,bm3⟩⟩:=H3
 obtain ⟨Ju,QN,s4,e4,h4,lg4,sy4,z4,ra4,k4⟩:=Jg (d+10) h3 (lX.2 WG.lg)
 have v4:=B5 h3.nd sy4
 have WH:=WG.sync
 rw [← v4] at WH
 rw [X9] at e4
 obtain ⟨y5,s5,e5,F5⟩:=tK (d+11) h4 (by omega)
 rw [X9] at e5
 have l5:=F5.rd.lens
 rw [Zd] at l5
 have h5:=h4.gr F5.gr
 have hnm:∀ f∈QN,f.nm.length<=1000:=fun f hf=>by
  rcases WH.nm (vw f) (List.mem_map_of_mem hf) with e | ⟨k,_,_,e⟩
  · rw [show f.nm=dE from e];decide
  · rw [show f.nm=bo k from e];have:=jD (k:=k);omega
 have aah:QN.length=Ve.length:=by
  have:=congrArg List.length v4
  rw [gm] at this
  rw [this];simp [gE,fL,cu]
 obtain ⟨s6,e6,g6⟩:=lP (d+12) h5.dk hnm (by omega)
 have Wq:tot QN<=n:=by
  rw [rF,v4]
  have:dx (gE dE (cu Ve))=dx (cu Ve):=vO (n:=dE) (g:=fun v:FV=>⟨v.nm,v.l,v.l.length⟩) (fun v=>rfl) _
  rw [this];exact UC
 have c6:¬ ((n:Nat):Int)<((tot QN:Nat):Int):=by omega
 rw [X8,hi2] at e6
 have h6:=h5.gr g6
 have VH:(aD l3).length<=7900:=by have:=AL WG.lg;omega
 obtain ⟨s7,ρ8,D8,ZY,s8,j,q8,e7,e8,h8,iv8,Q4,NG,⟨hi8,EU⟩,k8,hsame⟩:=BJ (kl:=[]) (y := .az) (d+1) h6 WH VH (by omega) (Rd.nil 1 _) (fun c hc=>by cases hc)
 obtain ⟨hv8,hq8⟩:=hsame rfl
 rw [hq8] at h8
 have hjl:j=l3.length:=by omega
 rw [X8,hi2] at e7 e8
 have e9:=BZ (d+13) s8
 obtain ⟨y10,bV,sw,f10⟩:=tK (d+11) h8 (by omega)
 have NY:=f10.rd.lens
 rw [Zd] at NY
 have h10:=h8.gr f10.gr
 obtain ⟨y11,bK,zU,f11⟩:=yx (d+12) h10
 have S3:=f11.rd.lens
 have eC:(l3.take j).length=k:=by rw [List.length_take,hjl,ll3];omega
 rw [eC] at S3
 have pD:iC .p (Z (.ptr D.p 0)) (Z .bU)=some (B false):=rfl
 have Y7:Eh .p (Z (.ptr D8.p 0)) (Z .bU)=some (B true):=rfl
 have ck:¬ (150:Int)<=((k:Nat):Int):=by omega
 rw [OZ]
 unfold f5
 simp only [Nat.add_assoc,Nat.reduceAdd] at e1 e2 e4 e5 e6 e7 e8 e9 sw zU lp
 clear Hz HF hI hn hm
 by_cases hz:((k:Nat):Int)=0
 · refine ⟨bV,?_⟩
   generalize R (d+14)=rr at *
   generalize ((k:Nat):Int)=KK at *
   generalize ((n:Nat):Int)=NN at *
   generalize ((tot QN:Nat):Int)=TT at *
   generalize ((bJ n0%1800:Nat):Int)=m1 at *
   generalize ((bJ n0:Nat):Int)=m0 at *
   generalize s.size+1=ss at *
   simp [c1,r1,c3,a1,e1,e2,ah,pD,lp,e4,e5,l5,e6,c6,e7,e8,e9,Y7,sw,NY,hz,kF]
 · refine ⟨bK,?_⟩
   generalize R (d+14)=rr at *
   generalize ((k:Nat):Int)=KK at *
   generalize ((n:Nat):Int)=NN at *
   generalize ((tot QN:Nat):Int)=TT at *
   generalize ((bJ n0%1800:Nat):Int)=m1 at *
   generalize ((bJ n0:Nat):Int)=m0 at *
   generalize s.size+1=ss at *
   simp [c1,r1,c3,a1,e1,e2,ah,pD,lp,e4,e5,l5,e6,c6,e7,e8,e9,Y7,sw,NY,hz,ck,zU,S3,kF]
end
end Go.Proofs.YtbohejffelipoaaGreatDoor
namespace Go.Proofs
open Go.Shelf
def Tryz.pY:Go.Shelf.Ren:=⟨fun | 156=>181 | 165=>220 | 166=>221 | 169=>222 | 240=>249 | 241=>250 | 276=>268 | 277=>269 | n=>n,fun | 31=>69 | 9=>9 | 3=>3 | 4=>4 | 0=>0 | 20=>20 | 72=>265 | 76=>156 | 70=>263 | 37=>22 | 75=>155 | 127=>289 | 164=>307 | 5=>5 | 80=>267 | n=>n,fun | n=>n⟩
theorem Tryz.CH:Go.Proofs.Lays.n156 Tryz.prog Tryz.pY:={
 mixed:=by kernel_rfl
 f156:=Tryz.func181.trans (congrArg some (by kernel_rfl))
 f165:=Tryz.func220.trans (congrArg some (by kernel_rfl))
 f166:=Tryz.func221.trans (congrArg some (by kernel_rfl))
 f169:=Tryz.func222.trans (congrArg some (by kernel_rfl))
 f240:=Tryz.func249.trans (congrArg some (by kernel_rfl))
 f241:=Tryz.func250.trans (congrArg some (by kernel_rfl))
 f276:=Tryz.func268.trans (congrArg some (by kernel_rfl))
 f277:=Tryz.func269.trans (congrArg some (by kernel_rfl))
 t0:=Tryz.underlying0
 a0:=Tryz.isAgg0
 z0:=Tryz.sizeOf0
 v0:=Tryz.zeroValue0
 t3:=Tryz.underlying3
 a3:=Tryz.isAgg3
 z3:=Tryz.sizeOf3
 v3:=Tryz.zeroValue3
 t4:=Tryz.underlying4
 a4:=Tryz.isAgg4
 z4:=Tryz.sizeOf4
 v4:=Tryz.zeroValue4
 t9:=Tryz.underlying9
 a9:=Tryz.isAgg9
 z9:=Tryz.sizeOf9
 v9:=Tryz.zeroValue9
 t20:=Tryz.underlying20
 a20:=Tryz.isAgg20
 z20:=Tryz.sizeOf20
 v20:=Tryz.zeroValue20
 t31:=Tryz.underlying69
 a31:=Tryz.isAgg69
 z31:=Tryz.sizeOf69
 v31:=Tryz.zeroValue69
 t37:=Tryz.underlying22
 a37:=Tryz.isAgg22
 z37:=Tryz.sizeOf22
 v37:=Tryz.zeroValue22
 t70:=Tryz.underlying263
 a70:=Tryz.isAgg263
 z70:=Tryz.sizeOf263
 v70:=Tryz.zeroValue263
 t72:=Tryz.underlying265
 a72:=Tryz.isAgg265
 z72:=Tryz.sizeOf265
 v72:=Tryz.zeroValue265
 t75:=Tryz.underlying155
 a75:=Tryz.isAgg155
 z75:=Tryz.sizeOf155
 v75:=Tryz.zeroValue155
 t76:=Tryz.underlying156
 a76:=Tryz.isAgg156
 z76:=Tryz.sizeOf156
 v76:=Tryz.zeroValue156
 t127:=Tryz.underlying289
 a127:=Tryz.isAgg289
 z127:=Tryz.sizeOf289
 v127:=Tryz.zeroValue289
 t164:=Tryz.underlying307
 a164:=Tryz.isAgg307
 z164:=Tryz.sizeOf307
 v164:=Tryz.zeroValue307 }
theorem Tryz.iR:Builder.Extra Tryz.prog Tryz.pY:={
 sizeBuilder:=by kernel_rfl
 liesBuilder:=by kernel_rfl
 t5:=Tryz.underlying5
 a5:=Tryz.isAgg5
 z5:=Tryz.sizeOf5
 v5:=Tryz.zeroValue5
 infoByte:=by kernel_rfl
 cellsByte:=by kernel_rfl
 sizeByte:=by kernel_rfl
 neB5:=by decide }
open Go.RowKit in
theorem Tryz.strings_Join_none (a:Option Addr) (c:Nat) (sep:ByteArray) (w:World) :
 Calls Tryz.prog 181 #[.slice a 0 c,.string sep] w fun e w'=>e = .returned (.string ⟨#[]⟩)/\w'=w:=Any.strings_Join_none Tryz.CH Tryz.iR a c sep w
open Go.RowKit in
theorem Tryz.strings_Join (bk o c:Nat) (xs:List ByteArray) (sep:ByteArray) (w:World) (hcells:∀ (j:Nat) x,xs[j]? = some x->w.cell? ⟨bk,o+j,none⟩=some (.string x)) (hbk:bk<w.heap.size) (hN:xs.length<=140737488355328) (hcap:xs.length<=c) (hlen:(Lib.join (xs.map (·.data.toList)) sep.data.toList).length<=140737488355328) :
 Calls Tryz.prog 181 #[.slice (some ⟨bk,o,none⟩) xs.length c,.string sep] w fun e w'=>e = .returned (.string ⟨(Lib.join (xs.map (·.data.toList)) sep.data.toList).toArray⟩)/\Below w.heap.size w w':=Any.strings_Join Tryz.CH Tryz.iR bk o c xs sep w hcells hbk hN hcap hlen
def Tryz.yV:Go.Shelf.Ren:=⟨fun | 219=>248 | 217=>266 | 225=>263 | 224=>262 | 267=>267 | 266=>272 | 314=>273 | n=>n,fun | 9=>9 | 3=>3 | 4=>4 | 5=>5 | 46=>29 | 146=>310 | 51=>45 | n=>n,fun | 1=>5 | n=>n⟩
theorem Tryz.Mz:Go.Proofs.Lays.n219 Tryz.prog Tryz.yV:={
 mixed:=by kernel_rfl
 f217:=Tryz.func266.trans (congrArg some (by kernel_rfl))
 f219:=Tryz.func248.trans (congrArg some (by kernel_rfl))
 f224:=Tryz.func262.trans (congrArg some (by kernel_rfl))
 f225:=Tryz.func263.trans (congrArg some (by kernel_rfl))
 f266:=Tryz.func272.trans (congrArg some (by kernel_rfl))
 f267:=Tryz.func267.trans (congrArg some (by kernel_rfl))
 f314:=Tryz.func273.trans (congrArg some (by kernel_rfl))
 t3:=Tryz.underlying3
 a3:=Tryz.isAgg3
 z3:=Tryz.sizeOf3
 v3:=Tryz.zeroValue3
 t4:=Tryz.underlying4
 a4:=Tryz.isAgg4
 z4:=Tryz.sizeOf4
 v4:=Tryz.zeroValue4
 t5:=Tryz.underlying5
 a5:=Tryz.isAgg5
 z5:=Tryz.sizeOf5
 v5:=Tryz.zeroValue5
 t9:=Tryz.underlying9
 a9:=Tryz.isAgg9
 z9:=Tryz.sizeOf9
 v9:=Tryz.zeroValue9
 t46:=Tryz.underlying29
 a46:=Tryz.isAgg29
 z46:=Tryz.sizeOf29
 v46:=Tryz.zeroValue29
 t51:=Tryz.underlying45
 a51:=Tryz.isAgg45
 z51:=Tryz.sizeOf45
 v51:=Tryz.zeroValue45
 t146:=Tryz.underlying310
 a146:=Tryz.isAgg310
 z146:=Tryz.sizeOf310
 v146:=Tryz.zeroValue310
 g1:=by kernel_rfl }
open Go.RowKit Go.Lib in
theorem Tryz.stringslite_Index_one (s:ByteArray) (c:UInt8) (w:World) :
 Calls Tryz.prog 248 #[.string s,.string ⟨#[c]⟩] w fun e w'=>e = .returned (.int .i64 (Lib.indexByte s.data.toList c))/\w'=w:=Any.stringslite_Index_one Tryz.Mz s c w
def Tryz.yU:Go.Shelf.Ren:=⟨fun | 143=>247 | 219=>248 | 217=>266 | 225=>263 | 224=>262 | 267=>267 | 266=>272 | 314=>273 | n=>n,fun | 9=>9 | 3=>3 | 4=>4 | 5=>5 | 46=>29 | 146=>310 | 51=>45 | n=>n,fun | 1=>5 | n=>n⟩
theorem Tryz.My:Go.Proofs.Lays.n143 Tryz.prog Tryz.yU:={
 mixed:=by kernel_rfl
 f143:=Tryz.func247.trans (congrArg some (by kernel_rfl))
 f217:=Tryz.func266.trans (congrArg some (by kernel_rfl))
 f219:=Tryz.func248.trans (congrArg some (by kernel_rfl))
 f224:=Tryz.func262.trans (congrArg some (by kernel_rfl))
 f225:=Tryz.func263.trans (congrArg some (by kernel_rfl))
 f266:=Tryz.func272.trans (congrArg some (by kernel_rfl))
 f267:=Tryz.func267.trans (congrArg some (by kernel_rfl))
 f314:=Tryz.func273.trans (congrArg some (by kernel_rfl))
 t3:=Tryz.underlying3
 a3:=Tryz.isAgg3
 z3:=Tryz.sizeOf3
 v3:=Tryz.zeroValue3
 t4:=Tryz.underlying4
 a4:=Tryz.isAgg4
 z4:=Tryz.sizeOf4
 v4:=Tryz.zeroValue4
 t5:=Tryz.underlying5
 a5:=Tryz.isAgg5
 z5:=Tryz.sizeOf5
 v5:=Tryz.zeroValue5
 t9:=Tryz.underlying9
 a9:=Tryz.isAgg9
 z9:=Tryz.sizeOf9
 v9:=Tryz.zeroValue9
 t46:=Tryz.underlying29
 a46:=Tryz.isAgg29
 z46:=Tryz.sizeOf29
 v46:=Tryz.zeroValue29
 t51:=Tryz.underlying45
 a51:=Tryz.isAgg45
 z51:=Tryz.sizeOf45
 v51:=Tryz.zeroValue45
 t146:=Tryz.underlying310
 a146:=Tryz.isAgg310
 z146:=Tryz.sizeOf310
 v146:=Tryz.zeroValue310
 g1:=by kernel_rfl }
open Go.RowKit Go.Lib in
theorem Tryz.strings_Index_one (s:ByteArray) (c:UInt8) (w:World) :
 Calls Tryz.prog 247 #[.string s,.string ⟨#[c]⟩] w fun e w'=>e = .returned (.int .i64 (Lib.indexByte s.data.toList c))/\w'=w:=Any.strings_Index_one Tryz.My s c w
def Tryz.yT:Go.Shelf.Ren:=⟨fun | 138=>246 | 195=>264 | 218=>265 | 143=>247 | 219=>248 | 217=>266 | 225=>263 | 224=>262 | 267=>267 | 266=>272 | 314=>273 | n=>n,fun | 9=>9 | 3=>3 | 4=>4 | 5=>5 | 0=>0 | 46=>29 | 146=>310 | 51=>45 | n=>n,fun | 1=>5 | n=>n⟩
theorem Tryz.Mx:Go.Proofs.Lays.n138 Tryz.prog Tryz.yT:={
 mixed:=by kernel_rfl
 f138:=Tryz.func246.trans (congrArg some (by kernel_rfl))
 f143:=Tryz.func247.trans (congrArg some (by kernel_rfl))
 f195:=Tryz.func264.trans (congrArg some (by kernel_rfl))
 f217:=Tryz.func266.trans (congrArg some (by kernel_rfl))
 f218:=Tryz.func265.trans (congrArg some (by kernel_rfl))
 f219:=Tryz.func248.trans (congrArg some (by kernel_rfl))
 f224:=Tryz.func262.trans (congrArg some (by kernel_rfl))
 f225:=Tryz.func263.trans (congrArg some (by kernel_rfl))
 f266:=Tryz.func272.trans (congrArg some (by kernel_rfl))
 f267:=Tryz.func267.trans (congrArg some (by kernel_rfl))
 f314:=Tryz.func273.trans (congrArg some (by kernel_rfl))
 t0:=Tryz.underlying0
 a0:=Tryz.isAgg0
 z0:=Tryz.sizeOf0
 v0:=Tryz.zeroValue0
 t3:=Tryz.underlying3
 a3:=Tryz.isAgg3
 z3:=Tryz.sizeOf3
 v3:=Tryz.zeroValue3
 t4:=Tryz.underlying4
 a4:=Tryz.isAgg4
 z4:=Tryz.sizeOf4
 v4:=Tryz.zeroValue4
 t5:=Tryz.underlying5
 a5:=Tryz.isAgg5
 z5:=Tryz.sizeOf5
 v5:=Tryz.zeroValue5
 t9:=Tryz.underlying9
 a9:=Tryz.isAgg9
 z9:=Tryz.sizeOf9
 v9:=Tryz.zeroValue9
 t46:=Tryz.underlying29
 a46:=Tryz.isAgg29
 z46:=Tryz.sizeOf29
 v46:=Tryz.zeroValue29
 t51:=Tryz.underlying45
 a51:=Tryz.isAgg45
 z51:=Tryz.sizeOf45
 v51:=Tryz.zeroValue45
 t146:=Tryz.underlying310
 a146:=Tryz.isAgg310
 z146:=Tryz.sizeOf310
 v146:=Tryz.zeroValue310
 g1:=by kernel_rfl }
open Go.RowKit Go.Lib in
theorem Tryz.strings_Count_one (s:ByteArray) (c:UInt8) (w:World) :
 Calls Tryz.prog 246 #[.string s,.string ⟨#[c]⟩] w fun e w'=>e = .returned (.int .i64 (Lib.countByte s.data.toList c))/\w'=w:=Any.strings_Count_one Tryz.Mx s c w
def Tryz.vj:Go.Shelf.Ren:=⟨fun | 7=>83 | 10=>125 | n=>n,fun | 23=>81 | 26=>9 | 3=>87 | 28=>138 | 0=>0 | 27=>137 | 33=>93 | 4=>4 | n=>n,fun | n=>n⟩
theorem Tryz.NW:Go.Proofs.SlLaysZ.n7 Tryz.prog Tryz.vj:={
 mixed:=by kernel_rfl
 f7:=⟨Tryz.f83.name,by decide,Tryz.func83.trans (congrArg some (by kernel_rfl))⟩
 f10:=⟨Tryz.f125.name,by decide,Tryz.func125.trans (congrArg some (by kernel_rfl))⟩
 t0:=Tryz.underlying0
 a0:=Tryz.isAgg0
 z0:=Tryz.sizeOf0
 v0:=Tryz.zeroValue0
 t4:=Tryz.underlying4
 a4:=Tryz.isAgg4
 z4:=Tryz.sizeOf4
 v4:=Tryz.zeroValue4
 t23:=Tryz.underlying81
 a23:=Tryz.isAgg81
 z23:=Tryz.sizeOf81
 v23:=Tryz.zeroValue81
 t26:=Tryz.underlying9
 a26:=Tryz.isAgg9
 z26:=Tryz.sizeOf9
 v26:=Tryz.zeroValue9
 t27:=Tryz.underlying137
 a27:=Tryz.isAgg137
 z27:=Tryz.sizeOf137
 v27:=Tryz.zeroValue137
 t28:=Tryz.underlying138
 a28:=Tryz.isAgg138
 z28:=Tryz.sizeOf138
 v28:=Tryz.zeroValue138
 t33:=Tryz.underlying93
 a33:=Tryz.isAgg93
 z33:=Tryz.sizeOf93
 v33:=Tryz.zeroValue93 }
def Tryz.qv:Go.Shelf.Ren:=⟨fun | 6=>82 | 8=>123 | 9=>124 | 11=>162 | 13=>164 | 12=>163 | 23=>210 | 24=>211 | 14=>201 | 15=>202 | 16=>203 | 17=>204 | 18=>205 | 19=>206 | 20=>207 | 21=>208 | 22=>209 | 25=>235 | 26=>236 | 27=>237 | 28=>238 | 29=>239 | 30=>240 | 31=>259 | n=>n,fun | 26=>9 | 28=>138 | 24=>69 | 0=>0 | 3=>3 | 37=>29 | 48=>45 | 50=>123 | 4=>4 | 40=>248 | 39=>247 | 45=>187 | 5=>5 | 9=>9 | 51=>281 | 55=>284 | 57=>298 | 58=>299 | 33=>93 | n=>n,fun | n=>n⟩
theorem Tryz.Np:Go.Proofs.SlLaysZ.n6 Tryz.prog Tryz.qv:={
 mixed:=by kernel_rfl
 f6:=⟨Tryz.f82.name,by decide,Tryz.func82.trans (congrArg some (by kernel_rfl))⟩
 f8:=⟨Tryz.f123.name,by decide,Tryz.func123.trans (congrArg some (by kernel_rfl))⟩
 f11:=⟨Tryz.f162.name,by decide,Tryz.func162.trans (congrArg some (by kernel_rfl))⟩
 t0:=Tryz.underlying0
 a0:=Tryz.isAgg0
 z0:=Tryz.sizeOf0
 v0:=Tryz.zeroValue0
 t24:=Tryz.underlying69
 a24:=Tryz.isAgg69
 z24:=Tryz.sizeOf69
 v24:=Tryz.zeroValue69
 t26:=Tryz.underlying9
 a26:=Tryz.isAgg9
 z26:=Tryz.sizeOf9
 v26:=Tryz.zeroValue9
 t28:=Tryz.underlying138
 a28:=Tryz.isAgg138
 z28:=Tryz.sizeOf138
 v28:=Tryz.zeroValue138
 i26:=by kernel_rfl }
def Tryz.Ez:Go.Shelf.Ren:=⟨fun | 6=>124 | 8=>164 | 9=>163 | 19=>210 | 20=>211 | 21=>201 | 22=>202 | 23=>203 | 24=>204 | 25=>205 | 26=>206 | 27=>207 | 28=>208 | 29=>209 | 36=>235 | 31=>236 | 32=>237 | 37=>238 | 38=>239 | 39=>240 | 41=>259 | n=>n,fun | 27=>69 | 29=>9 | 3=>3 | 32=>29 | 26=>69 | 0=>0 | 44=>45 | 46=>123 | 4=>4 | 36=>248 | 35=>247 | 41=>187 | 5=>5 | 9=>9 | 53=>281 | 57=>284 | 63=>298 | 64=>299 | n=>n,fun | n=>n⟩
theorem Tryz.N7:Go.Proofs.SlLaysM.n6 Tryz.prog Tryz.Ez:={
 mixed:=by kernel_rfl
 f6:=⟨Tryz.f124.name,by decide,Tryz.func124.trans (congrArg some (by kernel_rfl))⟩
 f8:=Tryz.func164.trans (congrArg some (by kernel_rfl))
 f9:=⟨Tryz.f163.name,by decide,Tryz.func163.trans (congrArg some (by kernel_rfl))⟩
 f19:=Tryz.func210.trans (congrArg some (by kernel_rfl))
 f20:=Tryz.func211.trans (congrArg some (by kernel_rfl))
 f21:=⟨Tryz.f201.name,by decide,Tryz.func201.trans (congrArg some (by kernel_rfl))⟩
 f22:=⟨Tryz.f202.name,by decide,Tryz.func202.trans (congrArg some (by kernel_rfl))⟩
 f23:=⟨Tryz.f203.name,by decide,Tryz.func203.trans (congrArg some (by kernel_rfl))⟩
 f24:=⟨Tryz.f204.name,by decide,Tryz.func204.trans (congrArg some (by kernel_rfl))⟩
 f25:=⟨Tryz.f205.name,by decide,Tryz.func205.trans (congrArg some (by kernel_rfl))⟩
 f26:=⟨Tryz.f206.name,by decide,Tryz.func206.trans (congrArg some (by kernel_rfl))⟩
 f27:=⟨Tryz.f207.name,by decide,Tryz.func207.trans (congrArg some (by kernel_rfl))⟩
 f28:=⟨Tryz.f208.name,by decide,Tryz.func208.trans (congrArg some (by kernel_rfl))⟩
 f29:=⟨Tryz.f209.name,by decide,Tryz.func209.trans (congrArg some (by kernel_rfl))⟩
 f31:=Tryz.func236.trans (congrArg some (by kernel_rfl))
 f32:=Tryz.func237.trans (congrArg some (by kernel_rfl))
 f36:=⟨Tryz.f235.name,by decide,Tryz.func235.trans (congrArg some (by kernel_rfl))⟩
 f37:=⟨Tryz.f238.name,by decide,Tryz.func238.trans (congrArg some (by kernel_rfl))⟩
 f38:=⟨Tryz.f239.name,by decide,Tryz.func239.trans (congrArg some (by kernel_rfl))⟩
 f39:=⟨Tryz.f240.name,by decide,Tryz.func240.trans (congrArg some (by kernel_rfl))⟩
 f41:=⟨Tryz.f259.name,by decide,Tryz.func259.trans (congrArg some (by kernel_rfl))⟩
 t0:=Tryz.underlying0
 a0:=Tryz.isAgg0
 z0:=Tryz.sizeOf0
 v0:=Tryz.zeroValue0
 t3:=Tryz.underlying3
 a3:=Tryz.isAgg3
 z3:=Tryz.sizeOf3
 v3:=Tryz.zeroValue3
 t4:=Tryz.underlying4
 a4:=Tryz.isAgg4
 z4:=Tryz.sizeOf4
 v4:=Tryz.zeroValue4
 t5:=Tryz.underlying5
 a5:=Tryz.isAgg5
 z5:=Tryz.sizeOf5
 v5:=Tryz.zeroValue5
 t9:=Tryz.underlying9
 a9:=Tryz.isAgg9
 z9:=Tryz.sizeOf9
 v9:=Tryz.zeroValue9
 t26:=Tryz.underlying69
 a26:=Tryz.isAgg69
 z26:=Tryz.sizeOf69
 v26:=Tryz.zeroValue69
 t27:=Tryz.underlying69
 a27:=Tryz.isAgg69
 z27:=Tryz.sizeOf69
 v27:=Tryz.zeroValue69
 t29:=Tryz.underlying9
 a29:=Tryz.isAgg9
 z29:=Tryz.sizeOf9
 v29:=Tryz.zeroValue9
 t32:=Tryz.underlying29
 a32:=Tryz.isAgg29
 z32:=Tryz.sizeOf29
 v32:=Tryz.zeroValue29
 t35:=Tryz.underlying247
 a35:=Tryz.isAgg247
 z35:=Tryz.sizeOf247
 v35:=Tryz.zeroValue247
 t36:=Tryz.underlying248
 a36:=Tryz.isAgg248
 z36:=Tryz.sizeOf248
 v36:=Tryz.zeroValue248
 t41:=Tryz.underlying187
 a41:=Tryz.isAgg187
 z41:=Tryz.sizeOf187
 v41:=Tryz.zeroValue187
 t44:=Tryz.underlying45
 a44:=Tryz.isAgg45
 z44:=Tryz.sizeOf45
 v44:=Tryz.zeroValue45
 t46:=Tryz.underlying123
 a46:=Tryz.isAgg123
 z46:=Tryz.sizeOf123
 v46:=Tryz.zeroValue123
 t53:=Tryz.underlying281
 a53:=Tryz.isAgg281
 z53:=Tryz.sizeOf281
 v53:=Tryz.zeroValue281
 t57:=Tryz.underlying284
 a57:=Tryz.isAgg284
 z57:=Tryz.sizeOf284
 v57:=Tryz.zeroValue284
 t63:=Tryz.underlying298
 a63:=Tryz.isAgg298
 z63:=Tryz.sizeOf298
 v63:=Tryz.zeroValue298
 t64:=Tryz.underlying299
 a64:=Tryz.isAgg299
 z64:=Tryz.sizeOf299
 v64:=Tryz.zeroValue299 }
end Go.Proofs
namespace Go.Proofs
open Go.RowKit Go.Maps Go.Sort Go.Shelf
theorem Tryz.Qq (m:Nat):AnyZ.SortsIn Tryz.prog Tryz.qv Fence.wide m :=
 ⟨fun blk off cap ss W hH hblk hsz=>callsIn_wide.2 (AnyM.slices_Sort_string Tryz.N7 blk off cap ss W hH hblk hsz),
  fun p cap W=>callsIn_wide.2 (AnyM.slices_Sort_string_none Tryz.N7 p cap W)⟩
set_option maxHeartbeats 1000000 in
theorem Tryz.Be {H:Type} (rb ro b nn:Nat) (D0:DataW H) (R:Value->Option (DataW H×List MemPlace)) (w:World) (hc:w.cell? ⟨rb,ro+1,none⟩=some (.map (some b))) (hown:w.ownsMap Tryz.prog 9 R b nn D0) (VR:Maps.size D0<=maxLen) (hbytes:Maps.size D0*16<=140737488355328) :
 Calls Tryz.prog 29 #[.pointer (some ⟨rb,ro,none⟩)] w fun e w'=>∃ (v:Value) (ss:List (List UInt8)),e = .returned v/\ss.Perm (strKeys D0) ∧
  w'.ownsRow w.heap.size 9 1 v ss.length ((ss.mergeSort (fun x y=>decide (x<=y))).map encStr)/\(v = .slice none 0 0↔ss=[])/\Below w.heap.size w w':=by
 refine (callsIn_wide (n:=6)).1 ?_
 have m9:=hown.lt
 have hseq:SeqGives Fence.wide 2 Tryz.prog 125 #[.pointer (some ⟨w.heap.size,0,none⟩)] encStr (fun ss=>ss.Perm (strKeys D0)) (Maps.size D0) (w.alloc (.cells #[.map (some b)] 81)) :=
  AnyZ.keys_gives (ρ:=Tryz.vj) { Tryz.NW with } Fence.wide _ trivial rfl (by omega) w.heap.size b nn D0 _ (by simp) (by simp) (by
   obtain ⟨es,clock,hb,Ft,hs,hD⟩:=hown
   exact ⟨es,clock,(Below.heap_alloc _ _ b m9).trans hb,Ft,hs,hD⟩)
 have cK:∀ mb W,CallsIn Fence.wide 5 Tryz.prog 83 #[.map mb] W fun e w'=>e = .returned (.func (.func 125) #[] #[.pointer (some ⟨W.heap.size,0,none⟩)])/\w'=W.alloc (.cells #[.map mb] 81):=fun mb W=>AnyZ.keys_in Tryz.NW Fence.wide 5 trivial rfl mb W
 have cS:=AnyZ.sorted_in Tryz.Np Fence.wide 5 trivial trivial trivial trivial rfl (by omega) (Tryz.Qq _) (enters_of Tryz.func124 (by kernel_rfl) rfl) 125 #[.pointer (some ⟨w.heap.size,0,none⟩)] trivial (enters_of Tryz.func125 (by kernel_rfl) rfl) _ _ VR hbytes _ hseq
 change CallsIn _ _ Tryz.prog 82 _ _ _ at cS
 have hfK:Fence.wide.fn 83:=trivial
 have hfS:Fence.wide.fn 82:=trivial
 refine callsIn_of_wp Tryz.func29 rfl trivial ?_ rfl
 simp only [Tryz.ntmps29,List.size_toArray,List.length_cons,List.length_nil,Nat.reduceAdd,Nat.reduceSub,Array.replicate_succ,Array.replicate_zero,List.push_toArray,List.append_toArray,List.nil_append,List.cons_append]
 gi_wp2_with (first
  | (gi_at_call 83;refine (cK _ _).mono ?_;rintro e w' ⟨rfl,rfl⟩)
  | (gi_at_call 82;refine cS.mono ?_;rintro e w' ⟨v,ss,rfl,hS,hrow,qF,hb⟩))
 go_ret
 exact ⟨v,ss,rfl,hS,ownsRow_base_a hrow (by simp),qF,((Below.refl _ w).alloc (Nat.le_refl _) _).trans (hb.mono (by simp))⟩
end Go.Proofs
namespace Go.Proofs.YtbohejffelipoaaGreatDoor
open Go Go.Abs Go.Abs.F
open Go.WideElems (Fit rd rg)
set_option linter.unusedVariables false
theorem qg {f:FuncId} {ts:List T} {σ τ:St} {t:T} (h:eV f ts σ=some (t,τ)) :
 f=29/\∃ i o own vs m es ks,ts=[Z (.ptr i o)]/\σ.get i=some (.cells own vs)/\vs[o+1]? = some (.map m)/\σ.get m=some (.map es)/\es.length<=1000/\ic es=some ks ∧
  ((ks=[]/\t=Z .az/\τ=σ)\/(ks≠[]/\t=Z (.sl σ.size 0 ks.length (.grown 1))/\τ=σ.push (.cells false ((cA ks).map S.str)))):=by
 unfold eV at h
 split at h
 · cases h
 · rename_i hf
   refine ⟨Nat.eq_of_beq_eq_true hf,?_⟩
   split at h
   · rename_i i o
     split at h
     · rename_i own vs hi
       split at h
       · rename_i m hm
         split at h
         · rename_i es QX
           split at h
           · rename_i hl hk
             cases h
             exact ⟨i,o,own,vs,m,es,_,rfl,hi,hm,QX,Nat.le_of_ble_eq_true hl,hk,.inl ⟨rfl,rfl,rfl⟩⟩
           · rename_i k l hl hk
             cases h
             exact ⟨i,o,own,vs,m,es,_,rfl,hi,hm,QX,Nat.le_of_ble_eq_true hl,hk,.inr ⟨by simp,rfl,rfl⟩⟩
           · cases h
         · cases h
       · cases h
     · cases h
   · cases h
theorem Iz {ι:bP} {w:World} {L:Abs.Loc} {es:List (S×V)} {ks:List (List UInt8)} (hb:dL ι L w (.map es)) (hk:ic es=some ks) (hl:es.length<=1000) :
 ∃ D0:DataW Unit,w.ownsMap Tryz.prog 9 (fun _=>some (.nil,[])) L.b 1000 D0/\(strKeys D0).Perm ks/\Maps.size D0<=1000:=by
 obtain ⟨fe,oP,h1,h2,h3,h4⟩:=hb
 obtain ⟨k1,k2,k3⟩:=uy hk
 have hlen:fe.size=es.length:=by rw [← Array.length_toList,← aL h2]
 have hkeys:fe.toList.map (·.key)=ks.map encStr:=by
  have:∀ {es:List (S×V)} {l:List MapEntry} {ks:List (List UInt8)},bf (fk ι) es l->es.map (·.1)=ks.map S.str->l.map (·.key)=ks.map encStr:=by
   intro es l ks h
   induction h generalizing ks with
   | nil=>intro e;cases ks with
     | nil=>rfl
     | cons _ _=>simp at e
   | cons a b ih =>
     intro e
     cases ks with
     | nil=>simp at e
     | cons k ks =>
       simp only [List.map_cons,List.cons.injEq] at e ⊢
       refine ⟨?_,ih e.2⟩
       have:=a.1
       rw [e.1] at this
       obtain ⟨s,hs,hl⟩:=this
       rw [hs]
       show Value.string s=Value.string ⟨k.toArray⟩
       rw [← hl]
  exact this h2 k1
 have Rc:∀ x∈fe.toList,∃ n,n∈ks/\x.key=encStr n/\rd (H:=Unit) Tryz.prog 9 (fun _=>some (.nil,[])) x=some (.string n,.nil):=by
  intro x hx
  have:x.key∈ks.map encStr:=by rw [← hkeys];exact List.mem_map_of_mem hx
  obtain ⟨n,hn,e⟩:=List.mem_map.1 this
  refine ⟨n,hn,e.symm,?_⟩
  unfold rd
  rw [← e,Go.WideMaps.keyOf_string_mk Tryz.underlying9 (by have:=k3 n hn;exact Nat.le_trans (by simpa [ByteArray.size] using this) (by decide))]
  simp
 refine ⟨_,⟨fe,oP,h1,⟨by rw [hlen];exact Nat.le_trans hl (by decide),⟨h4,?_,?_⟩,fun x hx => ?_⟩,by omega,rfl⟩,?_,?_⟩
 · rw [List.nodup_iff_pairwise_ne,List.pairwise_map]
   exact h3.imp fun h=>by omega
 · rw [hkeys]
   rw [List.nodup_iff_pairwise_ne,List.pairwise_map]
   exact (List.nodup_iff_pairwise_ne.1 k2).imp fun h e=>h (by simpa using e)
 · obtain ⟨n,_,_,h⟩:=Rc x hx
   exact ⟨_,h⟩
 · show (List.map (fun p:Lit×DataW Unit=>Go.strOf p.1) _).Perm ks
   refine ((WideShapes.sorted_perm _).map _).trans ?_
   rw [List.map_map]
   have:fe.toList.map ((fun p:Lit×DataW Unit=>Go.strOf p.1) ∘ rg (H:=Unit) Tryz.prog 9 (fun _=>some (.nil,[])))=ks:=by
    have e1:fe.toList.map ((fun p:Lit×DataW Unit=>Go.strOf p.1) ∘ rg (H:=Unit) Tryz.prog 9 (fun _=>some (.nil,[])))=fe.toList.map (fun x=>match x.key with | .string s=>s.data.toList | _=>[]):=by
     apply List.map_congr_left
     intro x hx
     obtain ⟨n,_,hn,h⟩:=Rc x hx
     simp [rg,h,hn,Go.strOf]
    rw [e1]
    have e2:fe.toList.map (fun x=>match x.key with | .string s=>s.data.toList | _=>[])=(fe.toList.map (·.key)).map (fun v=>match v with | .string s=>s.data.toList | _=>[]):=by rw [List.map_map];rfl
    rw [e2,hkeys,List.map_map]
    simp [Function.comp_def]
   rw [this]
 · show (List.foldr DataW.insert [] _).length<=1000
   rw [(WideShapes.sorted_perm _).length_eq,List.length_map,Array.length_toList]
   omega
theorem xa:aM Tryz.prog eV:=by
 constructor
 · intro f ts σ t τ h wf
   obtain ⟨_,i,o,own,vs,m,es,ks,_,_,_,_,_,_,h | h⟩:=qg h
   · obtain ⟨_,_,rfl⟩:=h
     exact ⟨wf,Nat.le_refl _⟩
   · obtain ⟨_,_,rfl⟩:=h
     exact ⟨St.bn wf _,by simp⟩
 · intro f ts σ t τ h wf ι w vs hR hF hA
   obtain ⟨rfl,i,o,own,cs,m,es,ks,rfl,hi,hm,QX,hl,hk,h⟩:=qg h
   cases hA with
   | cons a b =>
   cases b
   obtain ⟨L,hL,rfl⟩:=a
   obtain ⟨c,e,fz,h1,h2,h3,h4,h5⟩:=hR.blk i L _ hL hi
   obtain ⟨v,hv,hr⟩:=h4 (o+1) _ hm
   obtain ⟨M,hM,rfl⟩:=hr
   have hb:=hR.blk m M _ hM QX
   obtain ⟨D0,hown,hp,hs⟩:=Iz hb hk hl
   have hc:w.cell? ⟨L.b,L.base+o+1,none⟩=some (.map (some M.b)):=by
    unfold World.cell?
    simp only [h1]
    rw [Nat.add_assoc]
    simpa using hv
   refine (Tryz.Be L.b (L.base+o) M.b 1000 D0 _ w hc hown (Nat.le_trans hs (by decide)) (by omega)).mono ?_
   rintro e' u ⟨v,ss,rfl,Wl,hrow,qF,mu⟩
   have NP:=Wl.trans hp
   have PO:ss.mergeSort (fun x y=>decide (x<=y))=cA ks:=by
    rw [← uz ks]
    exact mergeSort_of_perm NP
   rw [PO] at hrow
   have hlen:=NP.length_eq
   rcases h with ⟨rfl,rfl,rfl⟩ | ⟨hne,rfl,rfl⟩
   · have:ss=[]:=List.eq_nil_of_length_eq_zero (by simpa using hlen)
     refine ⟨ι,v,rfl,⟨Nat.le_refl _,fun _ _=>rfl,fun _ _ h=>h,fun _ _ h=>h,fun _ _ _=>rfl,fun i L h1 h2=>by omega,mu.os,mu.output,mu.size,fun k hk _=>mu.block k hk⟩,⟨fun i L b hi' hb' => ?_,hR.sep,hR.dN⟩,qF.2 this⟩
     have hB:=hR.blk i L b hi' hb'
     cases b with
     | dead=>trivial
     | cells own vs=>exact hB.congr (mu.block _ (hB.lt trivial))
     | map es=>exact hB.congr (mu.block _ (hB.lt trivial))
     | dN g vs=>exact hB.congr (mu.block _ (hB.lt trivial))
   · have SC:ss≠[]:=fun e=>hne (by rw [e] at hlen;exact List.eq_nil_of_length_eq_zero (by simpa using hlen.symm))
     rcases hrow.2 with ⟨e,_⟩ | ⟨g,cap,cur,rfl,hg,yI,hle,hcap,hsz,kZ⟩
     · exact absurd (qF.1 e) SC
     have tT:(cA ks).length=ks.length:=(bw ks).length_eq
     let κ:bP:=fun j=>if j=σ.size then some ⟨g,0,cap,0⟩ else ι j
     have Ux:ι.le κ:=by
      intro j M hj
      have:j≠σ.size:=fun e=>by rw [hF j (by omega) (by simp;omega)] at hj;cases hj
      simp [κ,this,hj]
     have yK:dL κ ⟨g,0,cap,0⟩ u (.cells false ((cA ks).map S.str)):=by
      refine ⟨cur,_,(0,0),yI,by rw [hsz,Nat.mul_one],by simp [tT,← hlen];exact hle,fun j x hx => ?_,fun e=>by cases e⟩
      rw [List.getElem?_map,Option.map_eq_some_iff] at hx
      obtain ⟨n,hn,rfl⟩:=hx
      have hj:j<(cA ks).length:=(List.getElem?_eq_some_iff.1 hn).1
      have e1:(cur.toList.take (ss.length*1))[j]? = some (encStr n):=by rw [kZ,List.getElem?_map,hn];rfl
      rw [List.getElem?_take,if_pos (by omega),Array.getElem?_toList] at e1
      exact ⟨_,by simpa using e1,⟨_,rfl,by simp⟩⟩
     refine ⟨κ,_,rfl,?_,⟨fun j M b hj hb' => ?_,fun j k M N hj hk' qX hh hjk => ?_,fun j n vs hg => ?_⟩,?_⟩
     · refine ⟨by simp,fun j hj => ?_,fun j hj qX => ?_,fun j hj qX => ?_,fun j hj hn => ?_,fun j M h1 h2 hj _ => ?_,mu.os,mu.output,mu.size,fun k hk' _=>mu.block k hk'⟩
       · have:j≠σ.size:=by simp at hj;omega
         simp [κ,this]
       · rwa [St.aI _ _ (by omega)] at qX
       · rwa [St.aI _ _ (by omega)] at qX
       · rw [St.aI _ _ (by omega)]
       · have:j=σ.size:=by simp at h2;omega
         subst this
         simp [κ] at hj
         subst hj
         exact .inl hg
     · by_cases e:j=σ.size
       · subst e
         simp [κ] at hj
         subst hj
         rw [St.aq] at hb'
         cases hb'
         exact yK
       · simp [κ,e] at hj
         rw [St.aI _ _ e] at hb'
         have hB:=(hR.blk j M b hj hb').mono Ux
         cases b with
         | dead=>trivial
         | cells own vs=>exact hB.congr (mu.block _ (hB.lt trivial))
         | map es=>exact hB.congr (mu.block _ (hB.lt trivial))
         | dN g vs=>exact hB.congr (mu.block _ (hB.lt trivial))
     · have old:∀ {j:Nat} {M:Abs.Loc},j≠σ.size->κ j=some M->held ((σ.push (.cells false ((cA ks).map S.str))).get j)->M.b<w.heap.size:=by
        intro j M e hj hh
        simp [κ,e] at hj
        rw [St.aI _ _ e] at hh
        cases Vq:σ.get j with
        | none=>rw [Vq] at hh;exact hh.elim
        | some b=>rw [Vq] at hh;exact (hR.blk j M b hj Vq).lt hh
       by_cases e1:j=σ.size
       · subst e1
         have iu:=old (fun e=>hjk e.symm) hk' hh
         simp [κ] at hj
         subst hj
         intro e
         have:g=N.b:=e
         omega
       · by_cases e2:k=σ.size
         · subst e2
           have iu:=old e1 hj qX.held
           simp [κ] at hk'
           subst hk'
           intro e
           have:M.b=g:=e
           omega
         · simp [κ,e1] at hj
           simp [κ,e2] at hk'
           rw [St.aI _ _ e1] at qX
           rw [St.aI _ _ e2] at hh
           exact hR.sep j k M N hj hk' qX hh hjk
     · by_cases e:j=σ.size
       · subst e
         rw [St.aq] at hg
         cases hg
       · rw [St.aI _ _ e] at hg
         obtain ⟨L,hL⟩:=hR.dN j n vs hg
         exact ⟨L,Ux j L hL⟩
     · refine ⟨⟨g,0,cap,0⟩,cap,by simp [κ],?_,by rw [← hlen];exact hle,by simp⟩
       rw [hlen]
end Go.Proofs.YtbohejffelipoaaGreatDoor
namespace Go.Proofs.YtbohejffelipoaaGreatDoor
open Go Go.Abs Go.Abs.F
set_option linter.unusedVariables false
theorem zn:aM Tryz.prog CS:=by
 refine fV (fV (DY ?_ ?_) (yR ?_ ?_)) (jb (fX jZ 64 8) _)
 · intro f hf s c w
   have:f=247\/f=248:=by simpa [NV] using hf
   rcases this with rfl | rfl
   · exact Tryz.strings_Index_one s c w
   · exact Tryz.stringslite_Index_one s c w
 · exact fun s c w=>Tryz.strings_Count_one s c w
 · exact fun a c sep w=>Tryz.strings_Join_none a c sep w
 · exact fun bk o c xs sep w h1 h2 h3 h4 h5=>Tryz.strings_Join bk o c xs sep w h1 h2 h3 h4 h5
theorem qn:aM Tryz.prog IA:=fV xa (fV (fV (jb (fX (jb (fX jZ 64 8) _) 64 16) _) (fV Dy pg)) zn)
set_option maxRecDepth 100000 in
theorem BX:yE true (eO Tryz.prog 64 IA 20 7 [] St.empty)=true:=by kernel_rfl
theorem BE:aM Tryz.prog dw:=fV (zN (fX qn 64 20) BX) qn
end Go.Proofs.YtbohejffelipoaaGreatDoor
