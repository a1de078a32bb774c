/-
  A library of our own, several texts in one: an abstract store for the model, and runs over it. Nothing here speaks of any program. No conditions.
-/
import Derived.Test.YtbohejffelipoaaGreatDoorAbsC
import Derived.KernelRfl
namespace Go.Abs.F
open Go Go.Abs
abbrev Env:=Nat->T
def yL (ρ:Env):Operand->T
 | .tmp t=>ρ t
 | .const v=>match BC v with
   | some x => .v x
   | none => .any
 | .func f => .v (.s (.iY f []))
 | .global _ => .any
def VG (ρ:Env) (d:Nat) (t:T):Env:=fun i=>match Nat.beq i d with
 | true=>t
 | false=>ρ i
def oQ (n:Nat) (ρ:Env) (dst:Option Tmp) (t:T):Env:=match dst with
 | some d=>match Nat.blt d n with
   | true=>VG ρ d t
   | false=>ρ
 | none=>ρ
def gd (t:T) (want:Bool):Option Bool:=match t with
 | .any=>none
 | .v (.s .any)=>none
 | .v (.s (.bool b))=>some (b == want)
 | _=>some false
def kW (ops:List Oper) (ρ:Env) (o:Oper):Option Bool:=match o.guard with
 | none=>some true
 | some (j,want)=>match ops[j]? with
   | none=>some false
   | some oj=>match oj.dst with
     | none=>some false
     | some d=>gd (ρ d) want
def asB (c:T):Option Bool:=match c with
 | .v (.s (.bool b))=>some b
 | _=>none
inductive KF where
 | M (x:Operand) | P | L | A | W
def kf:Abs.K->KF
 | .P => .P
 | .L => .L
 | .A => .A
 | .W => .W
def U5 (P:Program) (o:Oper):KF :=
 match o.guard,o.op with
 | none,.move x => .M x
 | none,.assign x => .M x
 | _,op=>kf (kindOf P op)
noncomputable def bd {α R:Type} (x:Option α) (K:α->Option R):Option R:=Option.rec none K x
noncomputable def ax {R:Type} (x:Option (T×St)) (K:T->St->Option R):Option R:=Option.rec none (fun p=>Prod.rec K p) x
noncomputable def ck {R:Type} (b:Bool) (x:Option R):Option R:=Bool.rec none x b
noncomputable def br {R:Type} (c:T) (a b:Option R):Option R:=Option.rec none (fun v=>Bool.rec b a v) (asB c)
noncomputable def wQ {R:Type} (P:Program) (aa:ak) (n:Nat) (ops:List Oper) (o:Oper) (ρ:Env) (σ:St) (K:Env->St->Option R):Option R :=
 KF.rec (fun x=>K (oQ n ρ o.dst (yL ρ x)) σ)
  (bd (gT (kW ops ρ o) (oJ P o.op (yL ρ))) fun t=>K (oQ n ρ o.dst t) σ)
  (bd (gT (kW ops ρ o) (rM P o.op (yL ρ) σ.get)) fun t=>K (oQ n ρ o.dst t) σ)
  (ax (gS (kW ops ρ o) σ (aL σ (yc P o.op (yL ρ)))) fun t τ=>K (oQ n ρ o.dst t) τ)
  (ax (gS (kW ops ρ o) σ (An P aa o.op (yL ρ) σ)) fun t τ=>K (oQ n ρ o.dst t) τ)
  (U5 P o)
noncomputable def Se {R:Type} (P:Program) (aa:ak) (n:Nat) (ops:List Oper) (l:List Oper):Env->St->(Env->St->Option R)->Option R :=
 List.rec (fun ρ σ K=>K ρ σ) (fun o _ ih ρ σ K=>wQ P aa n ops o ρ σ fun ρ' fW=>ih ρ' fW K) l
abbrev jd:=List (Env×St)
def jd.at (h:jd) (k:Nat):Env×St:=h.getD k ((fun _ => .any),St.empty)
def ni (P:Program) (ops:List Oper) (h:jd):List (Oper×Nat)->List (Nat×Nat×dV)
 | []=>[]
 | (o,k)::r=>match kindOf P o.op with
   | .A=>match kW ops (h.at k).1 o with
     | some true=>match yc P o.op (yL (h.at k).1) with
       | some (b,_)=>(k,(h.at k).2.size,b)::ni P ops h r
       | none=>ni P ops h r
     | _=>ni P ops h r
   | _=>ni P ops h r
def PZ (P:Program) (ops:List Oper) (h:jd) (p:Nat):Mem:=cA p (h.at p).2.get (ni P ops h ops.zipIdx)
def wq (g:Option Bool) (b:Bool):Bool:=match g with
 | some true=>b
 | _=>true
def Kz (P:Program) (ops:List Oper) (ms:List Nat) (h:jd):Bool :=
 ops.zipIdx.all fun (o,k)=>match kindOf P o.op with
  | .L=>(0::(uI P ops.zipIdx).map (· + 1)).all fun p => !(gl (uI P ops.zipIdx) ms k p)||(Nat.beq p (canon (uI P ops.zipIdx) k) ||
   wq (kW ops (h.at k).1 o) (decide (rM P o.op (yL (h.at k).1) (PZ P ops h p)=rM P o.op (yL (h.at k).1) (h.at k).2.get)))
  | _=>true
noncomputable def DU {R:Type} (P:Program) (aa:ak) (n:Nat) (ops:List Oper) (ms:List Nat) (l:List Oper):jd->Env->St->(Env->St->Option R)->Option R :=
 List.rec (fun h ρ σ K=>Bool.rec none (K ρ σ) (Kz P ops ms (h++[(ρ,σ)])))
  (fun o _ ih h ρ σ K=>wQ P aa n ops o ρ σ fun ρ' fW=>ih (h++[(ρ,σ)]) ρ' fW K) l
def gR (dv:List T):List Nat->Nat->Env
 | [],_=>fun _ => .any
 | k::ks,j=>fun i=>match Nat.beq k i with
   | true=>dv.getD j .any
   | false=>gR dv ks (j+1) i
def rf (keep:List Nat) (ρ:Env):List T:=keep.map ρ
inductive uO where
 | normal (ρ:Env)
 | exit (id:Nat) (dv:List T)
 | ret (r:T)
noncomputable def jn {R:Type} (x:Option (JO×St)) (f:List T->St->Option R) (g:Nat->List T->St->Option R) (h:T->St->Option R):Option R :=
 Option.rec none (fun p=>Prod.rec (fun j τ=>JO.rec (fun v=>f v τ) (fun i v=>g i v τ) (fun r=>h r τ) j) p) x
noncomputable def tE {R:Type} (keep:List Nat) (K:uO->St->Option R) (x:Option (JO×St)):Option R :=
 jn x (fun v τ=>K (.normal (gR v keep 0)) τ) (fun i v τ=>K (.exit i v) τ) (fun r τ=>K (.ret r) τ)
noncomputable def Tl (keep:List Nat) (o:uO) (τ:St):Option (JO×St) :=
 uO.rec (fun ρ=>some (.normal (rf keep ρ),τ)) (fun i v=>some (.exit i v,τ)) (fun r=>some (.ret r,τ)) o
def qo (P:Program) (ρ:Env) (g:Mem):List ResultVar->Option (List T)
 | []=>some []
 | .tmp t::r=>match qo P ρ g r with
   | some l=>some (ρ t::l)
   | none=>none
 | .cell a t::r=>match dM P t with
   | some true=>match cQ P t with
     | some n=>match aH n (ρ a) g,qo P ρ g r with
       | some x,some l=>some (x::l)
       | _,_=>none
     | none=>none
   | some false=>match ab (ρ a) g,qo P ρ g r with
     | some x,some l=>some (x::l)
     | _,_=>none
   | none=>none
abbrev OW:Type 1:=∀ (R:Type),(Nat->Nat)->Nat->Env->St->(uO->St->Option R)->Option R
noncomputable def vC (P:Program) (aa:ak) (rets:List ResultVar) (n N:Nat) (c:Code):OW :=
 Code.rec (motive:=fun _=>OW)
  (fun _ _ _ ρ σ K=>K (.normal ρ) σ)
  (fun _ ops draw _ _ _ ρ σ K=>Bool.rec
   (Se P aa n ops.toList ops.toList ρ σ fun ρ' fW=>K (.normal ρ') fW)
   (Bool.rec none (DU P aa n ops.toList (dh ops.toList) ops.toList [] ρ σ fun ρ' fW=>K (.normal ρ') fW) (P.follows .mixedOrders&&gJ P ops.toList (dh ops.toList)))
   draw)
  (fun _ b DB DC R ctx lo ρ σ K=>DB R ctx (fm (ey rets) b ctx lo) ρ σ fun o τ=>uO.rec (fun ρ'=>DC R ctx lo ρ' τ K) (fun i v=>K (.exit i v) τ) (fun r=>K (.ret r) τ) o)
  (fun c a b DB DC R ctx lo ρ σ K=>Bool.rec
   (br (yL ρ c) (DB R ctx lo ρ σ K) (DC R ctx lo ρ σ K))
   (tE (bH n lo) K (br (yL ρ c) (DB _ ctx lo ρ σ (Tl (bH n lo))) (DC _ ctx lo ρ σ (Tl (bH n lo)))))
   (ends a&&ends b))
  (fun id _ ih _ ctx lo ρ σ K=>tE (bH n lo) K (ih _ (fun i=>if i=id then lo else ctx i) lo ρ σ fun o τ =>
   uO.rec (fun ρ'=>some (.normal (rf (bH n lo) ρ'),τ)) (fun i v=>if i=id then some (.normal v,τ) else some (.exit i v,τ)) (fun r=>some (.ret r,τ)) o))
  (fun c ih _ ctx lo ρ σ K=>tE [] K (loops (fun dv τ=>ih _ ctx (fm (ey rets) (.loop c) ctx lo) (gR dv (bH n (fm (ey rets) (.loop c) ctx lo)) 0) τ
   (Tl (bH n (fm (ey rets) (.loop c) ctx lo)))) N (rf (bH n (fm (ey rets) (.loop c) ctx lo)) ρ) σ))
  (fun _ _ _ _ _ _ _ _ _ _ _ _=>none)
  (fun id _ ctx _ ρ σ K=>K (.exit id (rf (bH n (ctx id)) ρ)) σ)
  (fun _ ih R ctx lo ρ σ K=>ih R ctx lo ρ σ K)
  (fun _ _ _ _ ρ σ K=>K (.normal ρ) σ)
  (fun _ _ _ _ _ _ _=>none)
  (fun _ _ _ ρ σ K=>bd (qo P ρ σ.get rets) fun l=>bd (aQ l) fun r=>K (.ret r) σ)
  (fun _ _ _ _ _ _ _=>none) c
def GO (n:Nat):List T->Nat->T
 | [],i=>match Nat.blt i n with
   | true=>tt
   | false => .any
 | t::r,0=>match n with
   | 0 => .any
   | _+1=>t
 | _::r,i+1=>GO (n-1) r i
noncomputable def aR (P:Program) (aa:ak) (N:Nat) (fn:Func) (args:List T) (σ:St):Option (T×St) :=
 vC P aa fn.results.toList fn.ntmps N (fn.body.getD .skip) _ (fun _=>0) 0 (GO fn.ntmps args) σ fun o τ =>
  uO.rec (fun ρ=>bd (qo P ρ τ.get fn.results.toList) fun l=>bd (aQ l) fun r=>some (r,τ)) (fun _ _=>none) (fun r=>some (r,τ)) o
def G (env:List T) (ρ:Env):Prop:=∀ i,env.getD i .any=ρ i
theorem G.ev {env:List T} {ρ:Env} (h:G env ρ):pd env=yL ρ:=by
 funext x
 cases x with
 | tmp t=>exact h t
 | const v=>rfl
 | func f=>rfl
 | global g=>rfl
theorem G.want {env:List T} {ρ:Env} (h:G env ρ) (ops:List Oper) (o:Oper):cO ops env o=kW ops ρ o:=by
 unfold cO kW
 cases o.guard with
 | none=>rfl
 | some p =>
   obtain ⟨j,w⟩:=p
   simp only
   cases ops[j]? with
   | none=>rfl
   | some oj =>
     simp only
     cases oj.dst with
     | none=>rfl
     | some d =>
       show gd (env.getD d .any) w=gd (ρ d) w
       rw [h d]
theorem G.put {env:List T} {ρ:Env} (h:G env ρ) (dst:Option Tmp) (t:T):G (cY env dst t) (oQ env.length ρ dst t):=by
 intro i
 unfold cY oQ
 cases dst with
 | none=>exact h i
 | some d =>
   simp only
   cases hd:Nat.blt d env.length with
   | false =>
     simp only
     have:¬ d<env.length:=fun hlt=>by
      have:Nat.blt d env.length=true:=by simpa [Nat.blt_eq] using hlt
      rw [this] at hd;cases hd
     rw [List.set_eq_of_length_le (Nat.le_of_not_lt this)]
     exact h i
   | true =>
     have hlt:d<env.length:=by simpa [Nat.blt_eq] using hd
     simp only [VG]
     cases hb:Nat.beq i d with
     | true =>
       have:i=d:=Nat.eq_of_beq_eq_true hb
       subst this
       simp [List.getD_eq_getElem?_getD,hlt]
     | false =>
       have:i≠d:=fun e=>by subst e;rw [Nat.beq_refl] at hb;cases hb
       simp only
       rw [← h i,List.getD_eq_getElem?_getD,List.getD_eq_getElem?_getD,List.getElem?_set_ne (by omega)]
theorem Ox (env:List T) (dst:Option Tmp) (t:T):(cY env dst t).length=env.length:=by
 unfold cY
 cases dst<;>simp
section
variable {P:Program} {aa:ak} {n:Nat}
theorem PW {α R:Type} (x:Option α) (K:α->Option R):bd x K=Abs.thn x K:=by cases x<;>rfl
theorem La {R:Type} (x:Option (T×St)) (K:T->St->Option R):ax x K=Abs.OS x K:=by
 cases x with
 | none=>rfl
 | some p=>rfl
theorem GS {R:Type} (c:T) (a b:Option R):br c a b=Abs.P0 c a b:=by
 cases c with
 | any=>rfl
 | eF l=>rfl
 | v x=>cases x with
   | agg l=>rfl
   | s y=>cases y with
     | bool q=>cases q<;>rfl
     | _=>rfl
theorem AR {R:Type} {ops:List Oper} {o:Oper} {env:List T} {ρ:Env} {σ:St} {K:List T×St->Option R} {K':Env->St->Option R} (hn:env.length=n) (h:G env ρ)
 (hK:∀ env' ρ' fW,env'.length=n->G env' ρ'->K (env',fW)=K' ρ' fW):Abs.oW P aa ops o (env,σ) K=wQ P aa n ops o ρ σ K':=by
 have hp:∀ t,G (cY env o.dst t) (oQ n ρ o.dst t):=fun t=>by rw [← hn];exact h.put _ _
 have hl:∀ t,(cY env o.dst t).length=n:=fun t=>by rw [Ox,hn]
 have key:∀ t τ,K (cY env o.dst t,τ)=K' (oQ n ρ o.dst t) τ:=fun t τ=>hK _ _ _ (hl t) (hp t)
 have main:Abs.oW P aa ops o (env,σ) K=KF.rec (fun x=>K' (oQ n ρ o.dst (yL ρ x)) σ)
  (bd (gT (kW ops ρ o) (oJ P o.op (yL ρ))) fun t=>K' (oQ n ρ o.dst t) σ)
  (bd (gT (kW ops ρ o) (rM P o.op (yL ρ) σ.get)) fun t=>K' (oQ n ρ o.dst t) σ)
  (ax (gS (kW ops ρ o) σ (aL σ (yc P o.op (yL ρ)))) fun t τ=>K' (oQ n ρ o.dst t) τ)
  (ax (gS (kW ops ρ o) σ (An P aa o.op (yL ρ) σ)) fun t τ=>K' (oQ n ρ o.dst t) τ) (kf (kindOf P o.op)):=by
  unfold Abs.oW
  simp only [h.ev,h.want,key,PW,La]
  cases kindOf P o.op<;>rfl
 rw [main]
 obtain ⟨dst,op,ty,pos,after,guard⟩:=o
 unfold wQ
 cases guard with
 | some g=>rfl
 | none=>cases op<;>rfl
theorem OI {R:Type} {ops:List Oper}:∀ (l:List Oper) {env:List T} {ρ:Env} {σ:St} {K:List T×St->Option R} {K':Env->St->Option R},env.length=n->G env ρ →
 (∀ env' ρ' fW,env'.length=n->G env' ρ'->K (env',fW)=K' ρ' fW)->Abs.runK P aa ops l (env,σ) K=Se P aa n ops l ρ σ K':=by
 intro l
 induction l with
 | nil=>intro env ρ σ K K' hn h hK;exact hK _ _ _ hn h
 | cons o l ih =>
   intro env ρ σ K K' hn h hK
   show Abs.oW P aa ops o (env,σ) _=wQ P aa n ops o ρ σ fun ρ' fW=>Se P aa n ops l ρ' fW K'
   exact AR hn h fun env' ρ' fW pg h'=>ih pg h' hK
def HG (h:j3) (hF:jd):Prop:=∀ k,G (h.at k).1 (hF.at k).1/\(h.at k).2=(hF.at k).2
theorem HG.nil:HG [] []:=fun k=>⟨fun i=>by simp [j3.at,jd.at],rfl⟩
theorem HG.snoc {h:j3} {hF:jd} (hl:h.length=hF.length) (k:HG h hF) {env:List T} {ρ:Env} (σ:St) (g:G env ρ):HG (h++[(env,σ)]) (hF++[(ρ,σ)]):=by
 intro j
 unfold j3.at jd.at
 rcases Nat.lt_trichotomy j h.length with hj | hj | hj
 · have:=k j
   unfold j3.at jd.at at this
   simp only [List.getD_eq_getElem?_getD] at this ⊢
   rw [List.getElem?_append_left hj,List.getElem?_append_left (by omega)]
   exact this
 · simp only [List.getD_eq_getElem?_getD]
   rw [List.getElem?_append_right (by omega),List.getElem?_append_right (by omega)]
   simp [hj,hl]
   exact g
 · simp only [List.getD_eq_getElem?_getD]
   rw [List.getElem?_eq_none (by simp;omega),List.getElem?_eq_none (by simp;omega)]
   exact ⟨fun i=>by simp,rfl⟩
theorem GC {ops:List Oper} {h:j3} {hF:jd} (k:HG h hF):∀ l,lE P ops h l=ni P ops hF l:=by
 intro l
 induction l with
 | nil=>rfl
 | cons p l ih =>
   obtain ⟨o,q⟩:=p
   simp only [lE,ni,(k q).1.want,(k q).1.ev,(k q).2,ih]
   rfl
theorem Su {ops:List Oper} {ms:List Nat} {h:j3} {hF:jd} (k:HG h hF):o9 P ops ms h=Kz P ops ms hF:=by
 unfold o9 Kz
 show List.all _ _=List.all _ _
 congr 1
 funext ⟨o,q⟩
 have XP:∀ p,SJ P ops h p=PZ P ops hF p:=fun p=>by unfold SJ PZ;rw [GC k,(k p).2]
 simp only [(k q).1.want,(k q).1.ev,(k q).2,XP]
 cases kindOf P o.op<;>rfl
theorem Kf {R:Type} {ops:List Oper} {ms:List Nat}:∀ (l:List Oper) {h:j3} {hF:jd} {env:List T} {ρ:Env} {σ:St} {K:List T×St->Option R} {K':Env->St->Option R},
 h.length=hF.length->HG h hF->env.length=n->G env ρ->(∀ env' ρ' fW,env'.length=n->G env' ρ'->K (env',fW)=K' ρ' fW)->Abs.uv P aa ops ms l h (env,σ) K=DU P aa n ops ms l hF ρ σ K':=by
 intro l
 induction l with
 | nil =>
   intro h hF env ρ σ K K' hl hh hn g hK
   show Abs.Xn (o9 P ops ms (h++[(env,σ)])) (K (env,σ))=Bool.rec none (K' ρ σ) (Kz P ops ms (hF++[(ρ,σ)]))
   rw [Su (hh.snoc hl σ g),hK _ _ _ hn g]
   cases Kz P ops ms (hF++[(ρ,σ)])<;>rfl
 | cons o l ih =>
   intro h hF env ρ σ K K' hl hh hn g hK
   show Abs.oW P aa ops o (env,σ) _=wQ P aa n ops o ρ σ fun ρ' fW=>DU P aa n ops ms l (hF++[(ρ,σ)]) ρ' fW K'
   exact AR hn g fun env' ρ' fW pg g'=>ih (by simp [hl]) (hh.snoc hl σ g) pg g' hK
theorem sw {env:List T} {ρ:Env} (g:G env ρ) (keep:List Nat):proj keep env=rf keep ρ:=by
 unfold proj rf
 congr 1
 funext i
 exact g i
theorem jk (v:List T):∀ (m i:Nat) (ks:List Nat) (j d:Nat),ks.Pairwise (· < ·)->(∀ k∈ks,i<=k/\k<i+m)->(di v m i ks j).getD d .any=gR v ks j (i+d):=by
 intro m
 induction m with
 | zero =>
   intro i ks j d hp hk
   cases ks with
   | nil=>simp [di,gR]
   | cons k ks=>have:=hk k (by simp);omega
 | succ m ih =>
   intro i ks j d hp hk
   cases ks with
   | nil =>
     cases d with
     | zero=>rfl
     | succ d=>simp only [di,List.getD_cons_succ];rw [ih (i+1) [] j d .nil (by simp)];rfl
   | cons k ks =>
     have hk0:=hk k (by simp)
     cases hb:Nat.beq k i with
     | true =>
       have:k=i:=Nat.eq_of_beq_eq_true hb
       subst this
       simp only [di,hb]
       cases d with
       | zero=>simp [gR]
       | succ d =>
         simp only [List.getD_cons_succ]
         rw [ih (k+1) ks (j+1) d (List.pairwise_cons.1 hp).2 (fun q hq=>⟨(List.pairwise_cons.1 hp).1 q hq,by have:=(hk q (by simp [hq])).2;omega⟩)]
         have:Nat.beq k (k+(d+1))=false:=by
          cases hx:Nat.beq k (k+(d+1)) with
          | false=>rfl
          | true=>have:=Nat.eq_of_beq_eq_true hx;omega
         simp only [gR,this]
         congr 1
         omega
     | false =>
       have hne:k≠i:=fun e=>by subst e;rw [Nat.beq_refl] at hb;cases hb
       simp only [di,hb]
       cases d with
       | zero =>
         have vN:∀ (ks:List Nat) (j:Nat),(∀ q∈ks,i<q)->gR v ks j i = .any:=by
          intro ks
          induction ks with
          | nil=>intro j _;rfl
          | cons q ks ih =>
            intro j h
            have h0:=h q (by simp)
            have:Nat.beq q i=false:=by
             cases hx:Nat.beq q i with
             | false=>rfl
             | true=>have:=Nat.eq_of_beq_eq_true hx;omega
            simp only [gR,this]
            exact ih _ fun q hq=>h q (by simp [hq])
         show T.any=_
         rw [Nat.add_zero,vN (k::ks) j]
         intro q hq
         rcases List.mem_cons.1 hq with rfl | hq
         · omega
         · have:=(List.pairwise_cons.1 hp).1 q hq;omega
       | succ d =>
         simp only [List.getD_cons_succ]
         rw [ih (i+1) (k::ks) j d hp (fun q hq=>⟨by
          rcases List.mem_cons.1 hq with rfl | hq
          · omega
          · have:=(List.pairwise_cons.1 hp).1 q hq;omega,by have:=(hk q hq).2;omega⟩)]
         congr 1
         omega
theorem uZ (n s:Nat):(bH n s).Pairwise (· < ·):=(List.pairwise_lt_range).filter _
theorem E2 {n s k:Nat} (h:k∈bH n s):k<n:=by
 unfold bH at h
 exact List.mem_range.1 (List.mem_filter.1 h).1
theorem ub (v:List T) (n s:Nat):G (place n (bH n s) v) (gR v (bH n s) 0):=by
 intro i
 unfold place
 rw [jk v n 0 _ 0 i (uZ n s) (fun k hk=>⟨Nat.zero_le _,by have:=E2 hk;omega⟩),Nat.zero_add]
theorem Fk (v:List T) (n:Nat):G (place n [] v) (gR v [] 0):=by
 intro i
 unfold place
 rw [jk v n 0 [] 0 i .nil (by simp),Nat.zero_add]
theorem wC (n:Nat) (keep:List Nat) (v:List T):(place n keep v).length=n:=by rw [place,fq]
theorem J8 {env:List T} {ρ:Env} (g:G env ρ) (m:Mem):∀ l,dW P env m l=qo P ρ m l:=by
 intro l
 induction l with
 | nil=>rfl
 | cons r l ih=>cases r<;>(simp only [dW,qo,ih,g _];rfl)
structure KG {R:Type} (n:Nat) (K:Out->St->Option R) (K':uO->St->Option R):Prop where
 normal:∀ env ρ τ,env.length=n->G env ρ->K (.normal env) τ=K' (.normal ρ) τ
 exit:∀ i v τ,K (.exit i v) τ=K' (.exit i v) τ
 ret:∀ r τ,K (.ret r) τ=K' (.ret r) τ
theorem KG.to (n s:Nat):KG n (OT (bH n s)) (Tl (bH n s)) :=
 ⟨fun env ρ τ _ g=>by show some _=some _;rw [sw g],fun _ _ _=>rfl,fun _ _=>rfl⟩
theorem xN {R:Type} {keep:List Nat} {K:Out->St->Option R} {K':uO->St->Option R} (k:KG n K K') (hp:∀ v,G (place n keep v) (gR v keep 0)) (x:Option (JO×St)):mZ n keep K x=tE keep K' x:=by
 cases x with
 | none=>rfl
 | some p =>
   obtain ⟨j,τ⟩:=p
   cases j with
   | normal v=>exact k.normal _ _ _ (wC _ _ _) (hp v)
   | exit i v=>exact k.exit _ _ _
   | ret r=>exact k.ret _ _
theorem Lo (rets:List ResultVar) (N:Nat):∀ (c:Code) {R:Type} (ctx:Nat->Nat) (lo:Nat) (env:List T) (ρ:Env) (σ:St) (K:Out->St->Option R) (K':uO->St->Option R),
 env.length=n->G env ρ->KG n K K'->exec P aa rets N c ctx lo env σ K=vC P aa rets n N c R ctx lo ρ σ K':=by
 intro c
 induction c with
 | skip=>intro R ctx lo env ρ σ K K' hn g k;exact k.normal _ _ _ hn g
 | region id ops draw =>
   intro R ctx lo env ρ σ K K' hn g k
   cases draw with
   | false=>exact OI _ hn g fun env' ρ' fW pg g'=>k.normal _ _ _ pg g'
   | true =>
     show (match P.follows .mixedOrders&&gJ P ops.toList (dh ops.toList) with
      | true=>uv P aa ops.toList (dh ops.toList) ops.toList [] (env,σ) fun s=>K (.normal s.1) s.2
      | false=>none)=Bool.rec none (DU P aa n ops.toList (dh ops.toList) ops.toList [] ρ σ fun ρ' fW=>K' (.normal ρ') fW) (P.follows .mixedOrders&&gJ P ops.toList (dh ops.toList))
     cases P.follows .mixedOrders&&gJ P ops.toList (dh ops.toList) with
     | false=>rfl
     | true=>exact Kf _ rfl HG.nil hn g fun env' ρ' fW pg g'=>k.normal _ _ _ pg g'
 | seq x y DB DC =>
   intro R ctx lo env ρ σ K K' hn g k
   refine DB ctx _ env ρ σ _ _ hn g ⟨fun env' ρ' τ pg g'=>DC ctx lo env' ρ' τ _ _ pg g' k,fun _ _ _=>k.exit _ _ _,fun _ _=>k.ret _ _⟩
 | cond c x y DB DC =>
   intro R ctx lo env ρ σ K K' hn g k
   show (match ends x&&ends y with
    | true=>mZ env.length (bH env.length lo) K (Abs.P0 (pd env c) (exec P aa rets N x ctx lo env σ (OT (bH env.length lo))) (exec P aa rets N y ctx lo env σ (OT (bH env.length lo))))
    | false=>Abs.P0 (pd env c) (exec P aa rets N x ctx lo env σ K) (exec P aa rets N y ctx lo env σ K))=Bool.rec
      (br (yL ρ c) (vC P aa rets n N x R ctx lo ρ σ K') (vC P aa rets n N y R ctx lo ρ σ K'))
      (tE (bH n lo) K' (br (yL ρ c) (vC P aa rets n N x _ ctx lo ρ σ (Tl (bH n lo))) (vC P aa rets n N y _ ctx lo ρ σ (Tl (bH n lo)))))
      (ends x&&ends y)
   rw [hn]
   cases ends x&&ends y with
   | true =>
     simp only
     rw [xN k (fun v=>ub v n lo),DB ctx lo env ρ σ _ _ hn g (KG.to n lo),DC ctx lo env ρ σ _ _ hn g (KG.to n lo),GS,g.ev]
   | false =>
     simp only
     rw [DB ctx lo env ρ σ _ _ hn g k,DC ctx lo env ρ σ _ _ hn g k,GS,g.ev]
 | block id c ih =>
   intro R ctx lo env ρ σ K K' hn g k
   show mZ env.length (bH env.length lo) K _=tE (bH n lo) K' _
   rw [hn,xN k (fun v=>ub v n lo)]
   congr 1
   refine ih _ lo env ρ σ _ _ hn g ⟨fun env' ρ' τ pg g' => ?_,fun i v τ=>rfl,fun r τ=>rfl⟩
   show some _=some _
   rw [sw g']
 | loop c ih =>
   intro R ctx lo env ρ σ K K' hn g k
   show mZ env.length [] K (loops _ N (proj (bH env.length (fm (ey rets) (.loop c) ctx lo)) env) σ)=tE [] K' (loops _ N (rf (bH n (fm (ey rets) (.loop c) ctx lo)) ρ) σ)
   rw [hn,xN k (fun v=>Fk v n),sw g]
   congr 2
   funext dv τ
   exact ih ctx _ _ _ τ _ _ (wC _ _ _) (ub _ _ _) (KG.to n _)
 | scope c ih=>intro R ctx lo env ρ σ K K' hn g k;exact ih ctx lo env ρ σ K K' hn g k
 | exit id =>
   intro R ctx lo env ρ σ K K' hn g k
   show K (.exit id (proj (bH env.length (ctx id)) env)) σ=K' (.exit id (rf (bH n (ctx id)) ρ)) σ
   rw [hn,sw g]
   exact k.exit _ _ _
 | ret =>
   intro R ctx lo env ρ σ K K' hn g k
   show (match dW P env σ.get rets with
    | some l=>match aQ l with
      | some r=>K (.ret r) σ
      | none=>none
    | none=>none)=bd (qo P ρ σ.get rets) fun l=>bd (aQ l) fun r=>K' (.ret r) σ
   rw [J8 g]
   cases qo P ρ σ.get rets with
   | none=>rfl
   | some l =>
     show (match aQ l with
      | some r=>K (.ret r) σ
      | none=>none)=bd (aQ l) fun r=>K' (.ret r) σ
     cases aQ l with
     | none=>rfl
     | some r=>exact k.ret _ _
 | rangeFunc f ps x y=>intro R ctx lo env ρ σ K K' hn g k;rfl
 | label l=>intro R ctx lo env ρ σ K K' hn g k;exact k.normal _ _ _ hn g
 | goto l=>intro R ctx lo env ρ σ K K' hn g k;rfl
 | refuse s=>intro R ctx lo env ρ σ K K' hn g k;rfl
theorem PT:∀ (args:List T) (n:Nat),args.length<=n->G (args++List.replicate (n-args.length) tt) (GO n args):=by
 intro args
 induction args with
 | nil =>
   intro n _ i
   simp only [List.nil_append,List.length_nil,Nat.sub_zero,GO]
   rw [List.getD_eq_getElem?_getD,List.getElem?_replicate]
   cases hb:Nat.blt i n with
   | true=>rw [if_pos (by simpa [Nat.blt_eq] using hb)];rfl
   | false =>
     have:¬ i<n:=fun h=>by
      have:Nat.blt i n=true:=by simpa [Nat.blt_eq] using h
      rw [this] at hb;cases hb
     rw [if_neg this];rfl
 | cons t args ih =>
   intro n hn i
   simp only [List.length_cons] at hn
   cases n with
   | zero=>omega
   | succ m =>
     cases i with
     | zero=>rfl
     | succ i =>
       have:=ih m (by omega) i
       simp only [List.cons_append,List.length_cons,List.getD_cons_succ,GO,Nat.add_sub_cancel]
       rw [← this,show m+1-(args.length+1)=m-args.length by omega]
theorem Lb {f:FuncId} {fn:Func} {N:Nat} {args:List T} {σ:St} (hfn:P.funcs[f]? = some fn) (hc:fn.body.isSome=true) (hl:Nat.ble args.length fn.ntmps=true) :
 body P aa N f args σ=aR P aa N fn args σ:=by
 have sc:args.length<=fn.ntmps:=Nat.le_of_ble_eq_true hl
 obtain ⟨c,hc⟩:=Option.isSome_iff_exists.1 hc
 unfold body aR
 simp only [hfn,hc,if_pos sc,Option.getD_some]
 refine Lo _ _ c _ _ _ _ _ _ _ (by simp;omega) (PT args fn.ntmps sc) ⟨fun env ρ τ _ g => ?_,fun i v τ=>rfl,fun r τ=>rfl⟩
 show (match dW P env τ.get fn.results.toList with
  | some l=>match aQ l with
    | some r=>some (r,τ)
    | none=>none
  | none=>none)=bd (qo P ρ τ.get fn.results.toList) fun l=>bd (aQ l) fun r=>some (r,τ)
 rw [J8 g]
 cases qo P ρ τ.get fn.results.toList with
 | none=>rfl
 | some l =>
   show (match aQ l with
    | some r=>some (r,τ)
    | none=>none)=bd (aQ l) fun r=>some (r,τ)
   cases aQ l<;>rfl
end
def fT (k:EK) (x y:T):Option T:=match Be k x y with | some b=>some (B b) | none=>none
def Bn (k:EK) (x y:T):Option T:=match Be k x y with | some b=>some (B (!b)) | none=>none
def look (k:KK) (ok:Bool) (z:V) (m q:T) (g:Mem):Option T:=if isKey k q then gA ok z m q g else none
def Fc (k:KK) (m q x:T) (σ:St):Option (T×St):=if isKey k q then ib m q x σ else none
def R4 (k:KK) (m q:T) (σ:St):Option (T×St):=if isKey k q then j7 m q σ else none
abbrev K3:=Option (dV×(Nat->T))
def bb (l:List S):K3:=some (.cells true l,fun n=>Z (.ptr n 0))
def cf (x:T):K3:=match x with
 | .v y=>some (.cells true y.cells,fun n=>Z (.ptr n 0))
 | _=>none
def aS (len:Nat) (x:Option (List S)):K3:=match x with
 | some l=>some (.cells true l,fun k=>Z (.sl k 0 len (.known len)))
 | none=>none
def N7:K3:=some (.map [],fun n=>Z (.map n))
def Jr (n by_:Nat) (z:List S) (l c:T):K3:=match l,c with
 | .v (.s (.int _ l)),.v (.s (.int _ c))=>if z.length=n/\0<=l/\l<=c/\c<=2 ^ 62/\by_*c<=2 ^ 48 then
  some (.cells true (dn c.toNat z),fun k=>Z (.sl k 0 l.toNat (.known c.toNat)))
  else none
 | _,_=>none
def qi (x:T):K3:=match x with
 | .v (.s (.str l))=>some (.cells false (fM l),fun k=>Z (.sl k 0 l.length (.grown 1)))
 | _=>none
def dyn (P:Program) (aa:ak) (f:T) (args:List T) (σ:St):Option (T×St):=match f with
 | .v (.s (.iY g fS))=>if eO P g then aa g (args++fS.map zm) σ else uJ P g (args++fS.map zm) σ
 | _=>none
def Cx (k n:Nat) (x:K3) (r:List (Nat×Nat×dV)):List (Nat×Nat×dV):=match x with
 | some (b,_)=>(k,n,b)::r
 | none=>r
def rT (t:T) (x:Option (List T)):Option (List T):=match x with
 | some l=>some (t::l)
 | none=>none
def rC (x:Option T) (y:Option (List T)):Option (List T):=match x,y with
 | some x,some l=>some (x::l)
 | _,_=>none
noncomputable def eS (P:Program) (N:Nat) (dC:ak):Nat->ak
 | 0=>fun _ _ _=>none
 | d+1=>fun f args σ=>match dC f args σ with
   | some r=>some r
   | none=>match P.funcs[f]? with
     | none=>none
     | some fn=>match fn.body.isSome&&Nat.ble args.length fn.ntmps with
       | true=>aR P (eS P N dC d) N fn args σ
       | false=>none
theorem au {P:Program} {N:Nat} {dC:ak} {d:Nat} {f:FuncId} {fn:Func} {args:List T} {σ:St} (hp:dC f args σ=none) (hfn:P.funcs[f]? = some fn)
 (hb:(fn.body.isSome&&Nat.ble args.length fn.ntmps)=true):eS P N dC (d+1) f args σ=aR P (eS P N dC d) N fn args σ:=by
 rw [eS]
 simp only [hp,hfn,hb]
theorem wK {P:Program} {N:Nat} {dC:ak} {d:Nat} {f:FuncId} {args:List T} {σ:St} {r:T×St} (h:eS P N dC (d+1) f args σ=some r) :
 dC f args σ=some r\/body P (eS P N dC d) N f args σ=some r:=by
 simp only [eS] at h
 split at h
 · rename_i q hq;cases h;exact .inl hq
 · split at h
   · cases h
   · rename_i fn hfn
     split at h
     · rename_i hb
       rw [Bool.and_eq_true] at hb
       exact .inr ((Lb hfn hb.1 hb.2).trans h)
     · cases h
theorem gq {P:Program} {dC:ak} (hp:aM P dC) (N:Nat):∀ d,aM P (eS P N dC d):=by
 intro d
 induction d with
 | zero=>exact ⟨(fun f ts σ t τ h=>by cases h),(fun f ts σ t τ h=>by cases h)⟩
 | succ d ih =>
   have hb:=BI ih N
   constructor
   · intro f ts σ t τ h wf
     rcases wK h with h | h
     · exact hp.wf _ _ _ _ _ h wf
     · exact hb.wf _ _ _ _ _ h wf
   · intro f ts σ t τ h wf
     rcases wK h with h | h
     · exact hp.calls _ _ _ _ _ h wf
     · exact hb.calls _ _ _ _ _ h wf
def nD:ak:=fun _ _ _=>none
theorem qY (P:Program) (N d:Nat):aM P (eS P N nD d):=gq kC N d
def zH (b:Bool) (x:Option (T×St)):Bool:=match x with
 | some (.v (.s (.bool c)),_)=>c == b
 | _=>false
theorem vD {b:Bool} {x:Option (T×St)} (h:zH b x=true):∃ τ,x=some (B b,τ):=by
 unfold zH at h
 split at h
 · rename_i c τ
   have:c=b:=by simpa using h
   subst this
   exact ⟨τ,rfl⟩
 · cases h
def yh:S->Bool
 | .bool _ | .int _ _ | .str _ | .bL | .ay | .mU | .va | .iT=>true
 | .iY _ fS=>fS.isEmpty
 | _=>false
def CB:V->Bool
 | .s x=>yh x
 | .agg l=>l.all yh
def kE:T->Bool
 | .any=>false
 | .v x=>CB x
 | .eF l=>l.all CB
theorem uc {x:S} {v:Value} {ι κ:bV} (hp:yh x=true) (h:ba ι x v):ba κ x v:=by
 cases x with
 | ptr i o=>cases hp
 | sl i o len cap=>cases hp
 | emp i e=>cases hp
 | map i=>cases hp
 | FP t i n=>cases hp
 | buf e i n=>cases hp
 | iY f fS =>
   cases fS with
   | nil =>
     obtain ⟨cs,e,r⟩:=h
     cases r
     exact ⟨[],e,.nil⟩
   | cons a l=>cases hp
 | _=>exact h
theorem CA {l:List S} {vs:List Value} {ι κ:bV} (hp:l.all yh=true) (h:aT (ba ι) l vs):aT (ba κ) l vs:=by
 induction h with
 | nil=>exact .nil
 | cons a _ ih =>
   simp only [List.all_cons,Bool.and_eq_true] at hp
   exact .cons (uc hp.1 a) (ih hp.2)
theorem uf {x:V} {v:Value} {ι κ:bV} (hp:CB x=true) (h:bS ι x v):bS κ x v:=by
 cases x with
 | s x=>exact uc hp h
 | agg l=>obtain ⟨cs,e,r⟩:=h;exact ⟨cs,e,CA hp r⟩
theorem ue {x:T} {v:Value} {ι κ:bV} (hp:kE x=true) (h:aK ι x v):aK κ x v:=by
 cases x with
 | any=>cases hp
 | v x=>exact uf hp h
 | eF l =>
   obtain ⟨cs,e,r⟩:=h
   refine ⟨cs,e,?_⟩
   clear e
   simp only [kE] at hp
   induction r with
   | nil=>exact .nil
   | cons a _ ih =>
     simp only [List.all_cons,Bool.and_eq_true] at hp
     exact .cons (uf hp.1 a) (ih hp.2)
theorem CD {ts:List T} {vs:List Value} {ι κ:bV} (hp:ts.all kE=true) (h:aT (aK ι) ts vs):aT (aK κ) ts vs:=by
 induction h with
 | nil=>exact .nil
 | cons a _ ih =>
   simp only [List.all_cons,Bool.and_eq_true] at hp
   exact .cons (ue hp.1 a) (ih hp.2)
def fZ (aa:ak) (fs:List Nat):ak:=fun f ts σ =>
 match fs.contains f&&ts.all kE with
 | false=>none
 | true=>match aa f ts St.empty with
   | none=>none
   | some (r,_)=>match kE r with
     | true=>some (r,σ)
     | false=>none
theorem uh {aa:ak} {fs:List Nat} {f:FuncId} {ts:List T} {σ τ:St} {r:T} (h:fZ aa fs f ts σ=some (r,τ)) :
 τ=σ/\ts.all kE=true/\kE r=true/\∃ VM,aa f ts St.empty=some (r,VM):=by
 unfold fZ at h
 split at h
 · cases h
 · rename_i hb
   rw [Bool.and_eq_true] at hb
   split at h
   · cases h
   · rename_i q VM hq
     split at h
     · rename_i hp
       cases h
       exact ⟨rfl,hb.2,hp,VM,hq⟩
     · cases h
theorem jl {P:Program} {aa:ak} (hs:aM P aa) (fs:List Nat):aM P (fZ aa fs):=by
 constructor
 · intro f ts σ t τ h wf
   obtain ⟨rfl,_⟩:=uh h
   exact ⟨wf,Nat.le_refl _⟩
 · intro f ts σ t τ h wf ι w vs hR hF hA
   obtain ⟨rfl,hp,hr,VM,h0⟩:=uh h
   refine (hs.calls f ts St.empty t VM h0 St.uH (fun _=>none) w vs ⟨(fun i L b h=>by cases h),(fun i j L M h=>by cases h),(fun i n vs h=>by cases h)⟩ (fun _ _ _=>rfl) (CD hp hA)).mono ?_
   intro e u ⟨κ,v,he,hX,_,hT⟩
   have hkeep:∀ k,k<w.heap.size->u.heap[k]? = w.heap[k]? := fun k hk=>hX.keep k hk fun i L hi=>by cases hi
   refine ⟨ι,v,he,⟨Nat.le_refl _,fun _ _=>rfl,fun _ _ h=>h,fun _ _ h=>h,fun _ _ _=>rfl,fun i L h1 h2=>by omega,hX.os,hX.output,hX.hsize,fun k hk _=>hkeep k hk⟩,⟨?_,hR.sep,hR.dP⟩,ue hr hT⟩
   intro i L b hi hb
   have hB:=hR.blk i L b hi hb
   cases b with
   | dead=>trivial
   | cells own vs=>exact hB.congr (hkeep _ (hB.lt trivial))
   | map es=>exact hB.congr (hkeep _ (hB.lt trivial))
   | dP g vs=>exact hB.congr (hkeep _ (hB.lt trivial))
def nc (f:Nat) (b:Bool):ak:=fun g ts σ=>match Nat.beq g f&&ts.isEmpty with
 | true=>some (B b,σ)
 | false=>none
theorem CP {P:Program} {c d:ak} (h:∀ f ts σ r,c f ts σ=some r->d f ts σ=some r) (hd:aM P d):aM P c :=
 ⟨fun f ts σ t τ e=>hd.wf f ts σ t τ (h f ts σ _ e),fun f ts σ t τ e=>hd.calls f ts σ t τ (h f ts σ _ e)⟩
theorem A7 {P:Program} {aa:ak} (hs:aM P aa) {f:Nat} {b:Bool} (h:zH b (aa f [] St.empty)=true):aM P (nc f b):=by
 refine CP ?_ (jl hs [f])
 intro g ts σ r e
 unfold nc at e
 split at e
 · rename_i hb
   rw [Bool.and_eq_true] at hb
   have h1:=Nat.eq_of_beq_eq_true hb.1
   have h2:ts=[]:=by simpa using hb.2
   subst h1;subst h2
   cases e
   unfold zH at h
   split at h
   · rename_i c τ hc
     have:c=b:=by simpa using h
     subst this
     simp only [fZ,hc,List.contains_cons,beq_self_eq_true,Bool.true_or,List.all_nil,Bool.and_self]
     rfl
   · cases h
 · cases e
def Bp (a b:ak):ak:=fun f ts σ=>match a f ts σ with
 | some r=>some r
 | none=>b f ts σ
theorem gm {P:Program} {a b:ak} (ha:aM P a) (hb:aM P b):aM P (Bp a b):=by
 constructor
 · intro f ts σ t τ h
   unfold Bp at h
   split at h
   · rename_i r hr
     cases h
     exact ha.wf f ts σ t τ hr
   · exact hb.wf f ts σ t τ h
 · intro f ts σ t τ h
   unfold Bp at h
   split at h
   · rename_i r hr
     cases h
     exact ha.calls f ts σ t τ hr
   · exact hb.calls f ts σ t τ h
theorem ew {a b:ak} {f:FuncId} {ts:List T} {σ:St} {r:T×St} (h:a f ts σ=some r):Bp a b f ts σ=some r:=by
 simp only [Bp,h]
theorem bG {a b:ak} {f:FuncId} {ts:List T} {σ:St} (h:a f ts σ=none):Bp a b f ts σ=b f ts σ:=by
 simp only [Bp,h]
theorem iG {aa:ak} {fs:List Nat} {f:FuncId} {ts:List T} {σ:St} {r:T} (hb:(fs.contains f&&ts.all kE)=true) (h:Option.map Prod.fst (aa f ts St.empty)=some r) (hr:kE r=true) :
 fZ aa fs f ts σ=some (r,σ):=by
 rw [Option.map_eq_some_iff] at h
 obtain ⟨x,h,rfl⟩:=h
 simp only [fZ,hb,h,hr]
theorem nz {α:Sort _} {a b:α} (h:a=b):a=b:=h
section
variable {α R:Type}
@[simp] theorem fC (a:α) (K:α->Option R):bd (some a) K=K a:=nz rfl
@[simp] theorem VW (K:α->Option R):bd none K=none:=nz rfl
@[simp] theorem iL (t:T) (τ:St) (K:T->St->Option R):ax (some (t,τ)) K=K t τ:=nz rfl
@[simp] theorem Ty (K:T->St->Option R):ax none K=none:=nz rfl
@[simp] theorem jf (x y:Option R):br (B true) x y=x:=nz rfl
@[simp] theorem jK (x y:Option R):br (B false) x y=y:=nz rfl
@[simp] theorem p9 (v:List T) (τ:St) (f:List T->St->Option R) (g:Nat->List T->St->Option R) (h:T->St->Option R):jn (some (.normal v,τ)) f g h=f v τ:=nz rfl
@[simp] theorem WJ (i:Nat) (v:List T) (τ:St) (f:List T->St->Option R) (g:Nat->List T->St->Option R) (h:T->St->Option R):jn (some (.exit i v,τ)) f g h=g i v τ:=nz rfl
@[simp] theorem Y7 (r:T) (τ:St) (f:List T->St->Option R) (g:Nat->List T->St->Option R) (h:T->St->Option R):jn (some (.ret r,τ)) f g h=h r τ:=nz rfl
@[simp] theorem WK (f:List T->St->Option R) (g:Nat->List T->St->Option R) (h:T->St->Option R):jn none f g h=none:=nz rfl
@[simp] theorem Wk (b w:Bool):gd (B b) w=some (b == w):=nz rfl
@[simp] theorem Wj (x:Option T):gT (some true) x=x:=nz rfl
@[simp] theorem TU (x:Option T):gT (some false) x=some tt:=nz rfl
@[simp] theorem Wh (σ:St) (x:Option (T×St)):gS (some true) σ x=x:=nz rfl
@[simp] theorem TS (σ:St) (x:Option (T×St)):gS (some false) σ x=some (tt,σ):=nz rfl
@[simp] theorem V5 (x:Option R):ck true x=x:=nz rfl
@[congr] theorem VV {x y:Option α} {K:α->Option R} (h:x=y):bd x K=bd y K:=by rw [h]
@[congr] theorem Tx {x y:Option (T×St)} {K:T->St->Option R} (h:x=y):ax x K=ax y K:=by rw [h]
@[congr] theorem VZ {x y:T} {u v:Option R} (h:x=y):br x u v=br y u v:=by rw [h]
@[congr] theorem Wi {x y:Option Bool} {z:Option T} (h:x=y):gT x z=gT y z:=by rw [h]
@[congr] theorem Wg {x y:Option Bool} {σ:St} {z:Option (T×St)} (h:x=y):gS x σ z=gS y σ z:=by rw [h]
@[congr] theorem V4 {x y:Bool} {z:Option R} (h:x=y):ck x z=ck y z:=by rw [h]
@[simp] theorem F0 (a b:T):aC (B true) a b=some a:=nz rfl
@[simp] theorem Eh (a b:T):aC (B false) a b=some b:=nz rfl
@[simp] theorem GI (i o:Nat):bg (Z (.ptr i o))=some (Z (.ptr i o)):=nz rfl
@[simp] theorem Wb:fT .p (Z .bL) (Z .bL)=some (B true):=nz rfl
@[simp] theorem Wc (i o:Nat):fT .p (Z (.ptr i o)) (Z .bL)=some (B false):=nz rfl
@[simp] theorem WW:Bn .p (Z .bL) (Z .bL)=some (B false):=nz rfl
@[simp] theorem WX (i o:Nat):Bn .p (Z (.ptr i o)) (Z .bL)=some (B true):=nz rfl
@[simp] theorem TG (a b:Bool):fT .b (B a) (B b)=some (B (decide (a=b))):=nz rfl
@[simp] theorem Vd (a b:Bool):Bn .b (B a) (B b)=some (B (!decide (a=b))):=nz rfl
@[simp] theorem GG (k i o:Nat):ae k (Z (.ptr i o))=some (Z (.ptr i (o+k))):=nz rfl
@[simp] theorem VP (b:Bool):jZ .not (B b)=some (B (!b)):=nz rfl
@[simp] theorem aY (k q:IntKind) (n:Int):aI k (I q n)=some (I k (k.wrap n)):=nz rfl
@[simp] theorem xZ (k:IntKind) (a b:Int):af .lss (I k a) (I k b)=some (B (decide (a<b))):=by simp [af,pE]
@[simp] theorem WR (k:IntKind) (a b:Int):af .leq (I k a) (I k b)=some (B (decide (a<=b))):=by simp [af,pE]
@[simp] theorem Dq (k:IntKind) (a b:Int):af .gtr (I k a) (I k b)=some (B (decide (b<a))):=by simp [af,pE]
@[simp] theorem Wl (k:IntKind) (a b:Int):af .geq (I k a) (I k b)=some (B (decide (b<=a))):=by simp [af,pE]
@[simp] theorem xI (k:IntKind) (a b:Int):af .eql (I k a) (I k b)=some (B (decide (a=b))):=by simp [af,pE]
@[simp] theorem WY (k:IntKind) (a b:Int):af .neq (I k a) (I k b)=some (B (!decide (a=b))):=by simp [af,pE]
@[simp] theorem dH (k:IntKind) (a b:Int):af .add (I k a) (I k b)=some (I k (k.wrap (a+b))):=by simp [af,pE]
@[simp] theorem js (k:IntKind) (a b:Int):af .sub (I k a) (I k b)=some (I k (k.wrap (a-b))):=by simp [af,pE]
@[simp] theorem N5 (k:IntKind) (a b:Int):af .mul (I k a) (I k b)=some (I k (k.wrap (a*b))):=by simp [af,pE]
theorem sx (k:IntKind) (a b:Int) (h:b≠0):af .rem (I k a) (I k b)=some (I k (a.tmod b)):=by simp [af,pE,h]
@[simp] theorem SA (k q:IntKind) (a b:Int):kM nQ (I k a) [I q b]=some (I k (min a b)):=by
  have h:(if b<a then b else a)=min a b:=by split<;>omega
  show some (I k (if b<a then b else a))=_
  rw [h]
@[simp] theorem Sz (k q:IntKind) (a b:Int):kM vr (I k a) [I q b]=some (I k (max a b)):=by
  have h:(if a<b then b else a)=max a b:=by split<;>omega
  show some (I k (if a<b then b else a))=_
  rw [h]
theorem ai {g:Mem} {i o:Nat} {own:Bool} {vs:List S} {x:S} (h:g i=some (.cells own vs)) (hx:vs[o]? = some x):ab (Z (.ptr i o)) g=some (Z x):=by
 simp [ab,h,hx]
theorem aW {σ:St} {i o:Nat} {vs:List S} {x:S} (h:σ.get i=some (.cells true vs)) (hx:o<vs.length):aw 1 (Z (.ptr i o)) (Z x) σ=some (tt,σ.set i (.cells true (aO vs o [x]))):=by
 simp [aw,h,V.cells]
 omega
end
theorem dU {P:Program} {N:Nat} {dC:ak} {d:Nat} {f:FuncId} {args:List T} {σ:St} {r:T×St} (h:dC f args σ=some r):eS P N dC (d+1) f args σ=some r:=by
 simp only [eS,h]
end Go.Abs.F
namespace Go.Abs
@[simp] theorem St.size_empty:St.empty.size=0:=rfl
end Go.Abs
namespace Go.Abs.F
open Go Go.Abs
theorem zJ {P:Program} {aa dC:ak} (hs:aM P aa)
 (H:∀ f ts σ r,dC f ts σ=some r->∃ (i o n e n':Nat) (rest:List T) (b:dV) (τ:St),ts=Z (.sl i o n (.grown e))::rest/\σ.get i=some b/\r=(Z (.sl i o n' (.grown e)),τ) ∧
  ∀ c,n<=c->aa f (Z (.sl i o n (.known c))::rest) σ=some (Z (.sl i o n' (.known c)),τ)):aM P dC:=by
 constructor
 · intro f ts σ t τ h wf
   obtain ⟨i,o,n,e,n',rest,b,yW,rfl,hb,hr,hc⟩:=H f ts σ _ h
   cases hr
   exact hs.wf _ _ _ _ _ (hc n (Nat.le_refl _)) wf
 · intro f ts σ t τ h wf ι w vs hR hF hA
   obtain ⟨i,o,n,e,n',rest,b,yW,rfl,hb,hr,hc⟩:=H f ts σ _ h
   cases hr
   cases hA with
   | cons hx vN =>
     obtain ⟨L,c,hL,rfl,hn,hsz⟩:=hx
     refine (hs.calls _ _ _ _ _ (hc c hn) wf ι w _ hR hF (.cons ⟨L,hL,rfl,hn⟩ vN)).mono ?_
     intro ex u ⟨κ,v,he,hX,pf,hT⟩
     refine ⟨κ,v,he,hX,pf,?_⟩
     obtain ⟨L',T5,rfl,pg⟩:=hT
     have:κ i=ι i:=hX.agree i (.inl (wf.lt hb))
     rw [this,hL] at T5
     cases T5
     exact ⟨L,c,by rw [this];exact hL,rfl,pg,hsz⟩
def th (f0 e:Nat) (z:List S):ak:=fun f ts σ=>match Nat.beq f f0 with
 | false=>none
 | true=>match ts with
   | [.v (.s (.sl i o n (.grown q))),.v (.s (.int .i64 a)),.v (.s (.int .i64 b))]=>match σ.get i with
     | some (.cells true vs)=>match decide (q=e/\0<=a/\b=a+1/\b<=n/\n<=1000000/\o+n*e<=vs.length) with
       | true=>some (Z (.sl i o (n-1) (.grown e)),(σ.set i (.cells true (aO vs (o+a.toNat*e) ((vs.drop (o+(a.toNat+1)*e)).take ((n-1-a.toNat)*e))))).set i (.cells true (aO (aO vs (o+a.toNat*e) ((vs.drop (o+(a.toNat+1)*e)).take ((n-1-a.toNat)*e))) (o+(n-1)*e) z)))
       | false=>none
     | _=>none
   | _=>none
def oD (f0 e:Nat):ak:=fun f ts σ=>match Nat.beq f f0 with
 | false=>none
 | true=>match ts with
   | [.v (.s (.sl i o n (.grown q))),.v (.s (.int .i64 k)),.v (.s (.sl j p m (.known c)))]=>match σ.get i,σ.get j with
     | some (.cells true vs),some (.cells true us)=>match decide (q=e/\o=0/\0<=k/\k<n/\m=1/\c=1/\n<=1000000/\n*e<=vs.length/\i≠j/\p+e<=us.length/\e≠0) with
       | true=>some (Z (.sl σ.size 0 (n+1) (.grown e)),(σ.set i .dead).push (.cells true (vs.take (k.toNat*e)++(us.drop p).take e++(vs.drop (k.toNat*e)).take ((n-k.toNat)*e))))
       | false=>none
     | _,_=>none
   | _=>none
theorem Ay {ι:bV} {g h:Mem} {w:World} (e:∀ k,h k=g k) (hR:Rel ι g w):Rel ι h w:=by
 have:h=g:=funext e
 rw [this]
 exact hR
theorem zA {ι κ:bV} {σ τ yW:St} {w u:World} (e:∀ k,yW.get k=τ.get k) (z:yW.size=τ.size) (h:Ext ι σ w κ τ u):Ext ι σ w κ yW u where
 size:=by rw [z];exact h.size
 agree:=fun i hi=>h.agree i (by rwa [z] at hi)
 own:=fun i hi hl=>h.own i hi (by rwa [e] at hl)
 hold:=fun i hi hl=>h.hold i hi (by rwa [e] at hl)
 ghost:=fun i hi hn=>by rw [e];exact h.ghost i hi hn
 fresh:=fun i L h1 h2 hL hl=>h.fresh i L h1 (by rwa [z] at h2) hL (by rwa [e] at hl)
 os:=h.os
 output:=h.output
 hsize:=h.hsize
 keep:=h.keep
theorem Hb {ι κ:bV} {σ τ:St} {w u:World} {i:Nat} {L:Loc} {vs us:List S} (hL:ι i=some L) (hb:σ.get i=some (.cells true vs)) (h:Ext ι (σ.set i (.cells true us)) w κ τ u):Ext ι σ w κ τ u:=by
 have hg:∀ k,k≠i->(σ.set i (.cells true us)).get k=σ.get k:=fun k hk=>St.aj _ _ hk
 have hl:∀ k,live ((σ.set i (.cells true us)).get k)->live (σ.get k):=fun k hk=>by
  by_cases e:k=i
  · subst e;rw [hb];trivial
  · rwa [hg k e] at hk
 have sc:∀ k,live (σ.get k)->live ((σ.set i (.cells true us)).get k):=fun k hk=>by
  by_cases e:k=i
  · subst e;rw [St.ar];trivial
  · rwa [hg k e]
 refine ⟨h.size,h.agree,fun k hk hh=>hl k (h.own k hk hh),fun k hk hh => ?_,fun k hk hn => ?_,fun k M h1 h2 hM hh => ?_,h.os,h.output,h.hsize,fun b hb' hn=>h.keep b hb' fun k M hk hM hh=>hn k M hk hM (hl k hh)⟩
 · by_cases e:k=i
   · subst e;rw [hb];trivial
   · have:=h.hold k hk hh
     rwa [hg k e] at this
 · by_cases e:k=i
   · subst e;rw [hL] at hn;cases hn
   · rw [h.ghost k hk hn,hg k e]
 · rcases h.fresh k M h1 h2 hM hh with f | ⟨j,N,a1,a2,a3,a4⟩
   · exact .inl f
   · exact .inr ⟨j,N,a1,a2,a3,hl j a4⟩
theorem J5 {ι:bV} {σ:St} {w:World} {i:Nat} {L:Loc} {vs:List S} {m q:Nat} (hR:Rel ι σ.get w) (hL:ι i=some L) (hb:σ.get i=some (.cells true vs)) (hm:m<=vs.length) (hq:L.base+m+q<=L.size) :
 Rel ι (σ.set i (.cells true (vs.take m++List.replicate q .any))).get w:=by
 have hg:∀ k,k≠i->(σ.set i (.cells true (vs.take m++List.replicate q .any))).get k=σ.get k:=fun k hk=>St.aj _ _ hk
 refine ⟨fun k M b hM hb' => ?_,fun k j M N hM hN hl hh hne => ?_,fun k g us hk => ?_⟩
 · by_cases e:k=i
   · subst e
     rw [St.ar] at hb'
     cases hb'
     rw [hL] at hM
     cases hM
     obtain ⟨c,el,fz,h1,h2,h3,h4,h5⟩:=hR.blk k L _ hL hb
     have Iz:(vs.take m).length=m:=by rw [List.length_take];omega
     refine ⟨c,el,fz,h1,h2,by simp;omega,fun j x hx => ?_,h5⟩
     by_cases hj:j<m
     · rw [List.getElem?_append_left (by omega),List.getElem?_take,if_pos hj] at hx
       exact h4 j x hx
     · rw [List.getElem?_append_right (by omega),Iz] at hx
       have hjq:j-m<q:=by
        have:=(List.getElem?_eq_some_iff.1 hx).1
        simpa using this
       have hx':x = .any:=by
        rw [List.getElem?_replicate,if_pos hjq] at hx
        cases hx;rfl
       subst hx'
       have hlt:L.base+j<c.size:=by omega
       exact ⟨c[L.base+j],Array.getElem?_eq_getElem hlt,(h5 rfl).2 _ _ (Array.getElem?_eq_getElem hlt)⟩
   · rw [hg k e] at hb'
     exact hR.blk k M b hM hb'
 · have h1:live (σ.get k):=by
    by_cases e:k=i
    · subst e;rw [hb];trivial
    · rwa [hg k e] at hl
   have h2:held (σ.get j):=by
    by_cases e:j=i
    · subst e;rw [hb];trivial
    · rwa [hg j e] at hh
   exact hR.sep k j M N hM hN h1 h2 hne
 · by_cases e:k=i
   · subst e;rw [St.ar] at hk;cases hk
   · rw [hg k e] at hk
     exact hR.dP k g us hk
theorem pZ {P:Program} {aa:ak} {f0 e:Nat} (hs:aM P aa)
 (H1:∀ (σ:St) (i n k j p:Nat) (vs us:List S),σ.wf->σ.get i=some (.cells true vs)->σ.get j=some (.cells true us)->k<n->n<=1000000->n*e<=vs.length->i≠j->p+e<=us.length →
  ∃ τ,aa f0 [Z (.sl i 0 n (.known n)),I .i64 k,Z (.sl j p 1 (.known 1))] σ=some (Z (.sl σ.size 0 (n+1) (.grown e)),τ)/\τ.size=σ.size+1/\τ.get σ.size=some (.cells true (vs.take (k*e)++(us.drop p).take e++(vs.drop (k*e)).take ((n-k)*e)))/\∀ b,b<σ.size->τ.get b=σ.get b)
 (H2:∀ (σ:St) (i n k j p c:Nat) (vs us:List S),σ.get i=some (.cells true vs)->σ.get j=some (.cells true us)->k<n->n<=1000000->n+1<=c->vs.length=c*e->i≠j->p+e<=us.length →
  ∃ τ B,aa f0 [Z (.sl i 0 n (.known c)),I .i64 k,Z (.sl j p 1 (.known 1))] σ=some (Z (.sl i 0 (n+1) (.known c)),τ)/\τ.size=σ.size/\τ.get i=some (.cells true B)/\B.length=vs.length ∧
    B.take ((n+1)*e)=vs.take (k*e)++(us.drop p).take e++(vs.drop (k*e)).take ((n-k)*e)/\∀ b,b≠i->τ.get b=σ.get b):aM P (oD f0 e):=by
 have inv:∀ f ts σ r,oD f0 e f ts σ=some r->f=f0/\∃ (i n k j p:Nat) (vs us:List S),ts=[Z (.sl i 0 n (.grown e)),I .i64 k,Z (.sl j p 1 (.known 1))]/\σ.get i=some (.cells true vs)/\σ.get j=some (.cells true us)/\k<n/\n<=1000000/\n*e<=vs.length/\i≠j/\p+e<=us.length/\e≠0 ∧
  r=(Z (.sl σ.size 0 (n+1) (.grown e)),(σ.set i .dead).push (.cells true (vs.take (k*e)++(us.drop p).take e++(vs.drop (k*e)).take ((n-k)*e)))):=by
  intro f ts σ r h
  unfold oD at h
  split at h
  · cases h
  · rename_i hf
    refine ⟨Nat.eq_of_beq_eq_true hf,?_⟩
    split at h
    · rename_i i o n q k j p m c
      split at h
      · rename_i vs us hi hj
        split at h
        · rename_i hd
          obtain ⟨rfl,rfl,h0,h1,rfl,rfl,h2,h3,h4,h5,h6⟩:=of_decide_eq_true hd
          cases h
          obtain ⟨k',rfl⟩:∃ k':Nat,k=k':=⟨k.toNat,by omega⟩
          exact ⟨i,n,k',j,p,vs,us,rfl,hi,hj,by omega,h2,h3,h4,h5,h6,by rw [Int.toNat_natCast]⟩
        · cases h
      · cases h
    · cases h
 constructor
 · intro f ts σ t τ h wf
   obtain ⟨rfl,i,n,k,j,p,vs,us,rfl,hi,hj,_,_,_,_,_,_,hr⟩:=inv _ _ _ _ h
   cases hr
   exact ⟨St.bu (St.wf_set wf (wf.lt hi) _) _,by simp⟩
 · intro f ts σ t τ h wf ι w args hR hF hA
   obtain ⟨rfl,i,n,k,j,p,vs,us,rfl,hi,hj,hkn,hn,hlen,hij,hp,B9,hr⟩:=inv _ _ _ _ h
   cases hr
   obtain ⟨Bd,Rf⟩:∃ Bd,Bd=vs.take (k*e)++(us.drop p).take e++(vs.drop (k*e)).take ((n-k)*e):=⟨_,rfl⟩
   rw [← Rf] at hF ⊢
   have hil:=wf.lt hi
   have hfree:ι σ.size=none:=hF σ.size (Nat.le_refl _) (by simp)
   cases hA with
   | cons hx vN =>
     obtain ⟨L,c,hL,rfl,hnc,hsz⟩:=hx
     have SW:=hR.blk i L _ hL hi
     by_cases hc:n+1<=c
     · -- there is room
       have hq:L.base+n*e+(c-n)*e<=L.size:=by
        have:n*e+(c-n)*e=c*e:=by rw [← Nat.add_mul];congr 1;omega
        omega
       have hRw:=J5 hR hL hi hlen hq
       obtain ⟨vw,YT⟩:∃ vw,vw=vs.take (n*e)++List.replicate ((c-n)*e) S.any:=⟨_,rfl⟩
       rw [← YT] at hRw
       have hvl:vw.length=c*e:=by
        rw [YT]
        simp only [List.length_append,List.length_take,List.length_replicate]
        have:n*e+(c-n)*e=c*e:=by rw [← Nat.add_mul];congr 1;omega
        omega
       have hjw:(σ.set i (.cells true vw)).get j=some (.cells true us):=by rw [St.aj _ _ (fun h=>hij h.symm)];exact hj
       obtain ⟨τ,B,hrun,EX,NG,hBl,hB,NH⟩:=H2 (σ.set i (.cells true vw)) i n k j p c vw us (St.ar _ _ _) hjw hkn hn hc hvl hij hp
       have Nq:(k+1)*e<=n*e:=Nat.mul_le_mul_right _ hkn
       have aas:k*e<=n*e:=Nat.mul_le_mul_right _ (by omega)
       have hnk:k*e+(n-k)*e=n*e:=by rw [← Nat.add_mul];congr 1;omega
       have hBN:B.take ((n+1)*e)=Bd:=by
        rw [hB,Rf,YT]
        have h1:(vs.take (n*e)++List.replicate ((c-n)*e) S.any).take (k*e)=vs.take (k*e):=by
         rw [List.take_append_of_le_length (by rw [List.length_take];omega),List.take_take]
         congr 1;omega
        have h2:((vs.take (n*e)++List.replicate ((c-n)*e) S.any).drop (k*e)).take ((n-k)*e)=(vs.drop (k*e)).take ((n-k)*e):=by
         rw [List.drop_append_of_le_length (by rw [List.length_take];omega),List.take_append_of_le_length (by rw [List.length_drop,List.length_take];omega),List.drop_take,List.take_take]
         congr 1;omega
        rw [h1,h2]
       have hFw:gZ ι (σ.set i (.cells true vw)).size τ.size:=fun q h1 h2=>by simp at h1 EX;omega
       refine (hs.calls _ _ _ _ _ hrun (St.wf_set wf hil _) ι w _ hRw hFw (.cons ⟨L,hL,rfl,hnc⟩ vN)).mono ?_
       rintro ex u ⟨κ,v,rfl,hX,pf,hT⟩
       have Ri:=Hb hL hi hX
       have IU:κ i=some L:=by rw [hX.agree i (.inl hil)];exact hL
       have YX:κ σ.size=none:=by rw [hX.agree σ.size (.inr (by simp at EX;omega))];exact hfree
       have DA:τ.size=σ.size:=by simpa using EX
       have FW:τ.wf:=(hs.wf _ _ _ _ _ hrun (St.wf_set wf hil _)).1
       obtain ⟨cc,el,fz,b1,b2,b3,b4,b5⟩:=pf.blk i L _ IU NG
       have hu:({ u with heap:=u.heap.setIfInBounds L.b (.cells cc el fz) }:World)=u:=by
        have hh:u.heap.setIfInBounds L.b (.cells cc el fz)=u.heap:=by
         apply Array.ext_getElem?
         intro q
         by_cases hq:L.b=q
         · subst hq
           rw [b1,Array.getElem?_setIfInBounds_self_of_lt (Array.getElem?_eq_some_iff.1 b1).1]
         · rw [Array.getElem?_setIfInBounds_ne hq]
        rw [hh]
       have hbk:dq κ L { u with heap:=u.heap.setIfInBounds L.b (.cells cc el fz) } (.cells true Bd):=by
        rw [hu]
        have hNl:Bd.length<=B.length:=by rw [← hBN,List.length_take];omega
        refine ⟨cc,el,fz,b1,b2,by omega,fun q x hx => ?_,b5⟩
        rw [← hBN,List.getElem?_take] at hx
        split at hx
        · exact b4 q x hx
        · cases hx
       have hmv:=uo (σ:=τ) pf FW (by rw [DA];exact YX) IU NG (.cells cc el fz) (M:=L) rfl (.cells true Bd) hbk
       rw [hu,DA] at hmv
       obtain ⟨XB,XC⟩:=hmv
       have hsame:∀ q,((σ.set i .dead).push (.cells true Bd)).get q=((τ.set i .dead).push (.cells true Bd)).get q:=fun q=>by
        by_cases hq:q=σ.size
        · have a1:((σ.set i .dead).push (.cells true Bd)).get q=some (.cells true Bd):=by rw [hq];exact St.aq (σ.set i .dead) _
          have a2:((τ.set i .dead).push (.cells true Bd)).get q=some (.cells true Bd):=by rw [hq,← DA];exact St.aq (τ.set i .dead) _
          rw [a1,a2]
        · rw [St.aD (σ.set i .dead) _ (by simpa using hq),St.aD (τ.set i .dead) _ (by simp;omega)]
          by_cases qK:q=i
          · rw [qK,St.ar,St.ar]
          · rw [St.aj _ _ qK,St.aj _ _ qK,NH q qK,St.aj _ _ qK]
       refine ⟨_,v,rfl,zA hsame (by simp [DA]) (Ri.trans XB),Ay hsame XC,?_⟩
       obtain ⟨L',T5,rfl,pg⟩:=hT
       rw [IU] at T5
       cases T5
       exact ⟨L,c,bB _ _ _,rfl,pg,hsz⟩
     · -- there is none
       have hcn:c=n:=by omega
       subst hcn
       have UF:∃ τ,aa f [Z (.sl i 0 c (.known c)),I .i64 k,Z (.sl j p 1 (.known 1))] σ=some (Z (.sl σ.size 0 (c+1) (.grown e)),τ)/\τ.size=σ.size+1/\τ.get σ.size=some (.cells true Bd)/\∀ b,b<σ.size->τ.get b=σ.get b:=by
        rw [Rf]
        exact H1 σ i c k j p vs us wf hi hj hkn hn hlen hij hp
       obtain ⟨τ,hrun,EX,Y2,NH⟩:=UF
       refine (hs.calls _ _ _ _ _ hrun wf ι w _ hR (by rw [EX];simpa using hF) (.cons ⟨L,hL,rfl,hnc⟩ vN)).mono ?_
       rintro ex u ⟨κ,v,rfl,hX,pf,hT⟩
       have IU:κ i=some L:=by rw [hX.agree i (.inl hil)];exact hL
       have NG:τ.get i=some (.cells true vs):=by rw [NH i hil];exact hi
       have FW:τ.wf:=(hs.wf _ _ _ _ _ hrun wf).1
       obtain ⟨XB,XC⟩:=tq pf IU NG
       have hsame:∀ q,((σ.set i .dead).push (.cells true Bd)).get q=(τ.set i .dead).get q:=fun q=>by
        by_cases hq:q=σ.size
        · have a1:((σ.set i .dead).push (.cells true Bd)).get q=some (.cells true Bd):=by rw [hq];exact St.aq (σ.set i .dead) _
          rw [a1,St.aj _ _ (by omega),hq,Y2]
        · rw [St.aD (σ.set i .dead) _ (by simpa using hq)]
          by_cases qK:q=i
          · rw [qK,St.ar,St.ar]
          · rw [St.aj _ _ qK,St.aj _ _ qK]
            rcases Nat.lt_or_ge q σ.size with hl | hl
            · rw [NH q hl]
            · rw [wf q hl,FW q (by omega)]
       exact ⟨κ,v,rfl,zA hsame (by simp [EX]) (hX.trans XB),Ay hsame XC,hT⟩
end Go.Abs.F
