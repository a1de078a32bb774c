/-
  A library of our own, several texts in one: an abstract store for the model, and runs over it. Nothing here speaks of any program. No conditions.
-/
import Derived.Test.YtbohejffelipoaaGreatDoorAbsB
import Derived.WalkKit
import Derived.ProofKit
import Derived.OpenShut
namespace Go.Abs
open Go
def bI (o:Oper):List Nat:=(o.after.toList.filter (Region.binds .any ·)).map (·.on)
def nC (acc:List Nat) (ds:List Nat):Nat:=ds.foldl (fun s e=>s ||| (2 ^ e ||| acc.getD e 0)) 0
def eW:List Oper->List Nat->List Nat
 | [],acc=>acc
 | o::r,acc=>eW r (acc++[nC acc (bI o)])
def dh (ops:List Oper):List Nat:=eW ops []
def tmpsOf (xs:List Operand):List Nat :=
 match xs with
 | []=>[]
 | .tmp t::r=>t::tmpsOf r
 | _::r=>tmpsOf r
def pS (ops:List Oper) (o:Oper):List Nat :=
 match o.guard with
 | none=>[]
 | some (j,_)=>match ops[j]? with
   | some oj=>oj.dst.toList
   | none=>[]
def reads (ops:List Oper) (o:Oper):List Nat:=tmpsOf o.op.operands.toList++pS ops o
def pj (P:Program) (o:Oper):Bool:=kindOf P o.op == .W
def Cy (P:Program) (ops:List Oper) (ms:List Nat) (k:Nat) (o:Oper) (j:Nat) (oj:Oper):Bool :=
 Nat.beq j k ||
  ((match oj.dst with
    | none=>true
    | some d=>(o.dst != some d)&&(!(reads ops o).contains d||(if j<k then (ms.getD k 0).testBit j else (ms.getD j 0).testBit k))) &&
  (!(pj P o)||(!(pj P oj)||(!(Nat.blt j k)||(ms.getD k 0).testBit j))))
def gJ (P:Program) (ops:List Oper) (ms:List Nat):Bool :=
 ops.zipIdx.all fun (o,k)=>(bI o).all (fun e=>Nat.blt e k)&&ops.zipIdx.all fun (oj,j)=>Cy P ops ms k o j oj
abbrev j3:=List (List T×St)
def j3.at (h:j3) (k:Nat):List T×St:=h.getD k ([],St.empty)
def lE (P:Program) (ops:List Oper) (h:j3):List (Oper×Nat)->List (Nat×Nat×dV)
 | []=>[]
 | (o,k)::r=>match kindOf P o.op with
   | .A=>match cO ops (h.at k).1 o with
     | some true=>match yc P o.op (pd (h.at k).1) with
       | some (b,_)=>(k,(h.at k).2.size,b)::lE P ops h r
       | none=>lE P ops h r
     | _=>lE P ops h r
   | _=>lE P ops h r
def cA (p:Nat) (g:Mem):List (Nat×Nat×dV)->Mem
 | []=>g
 | (q,i,b)::r=>match Nat.ble p q with
   | true=>rP (cA p g r) i b
   | false=>cA p g r
def SJ (P:Program) (ops:List Oper) (h:j3) (p:Nat):Mem:=cA p (h.at p).2.get (lE P ops h ops.zipIdx)
def uI (P:Program):List (Oper×Nat)->List Nat
 | []=>[]
 | (o,k)::r=>match pj P o with
   | true=>k::uI P r
   | false=>uI P r
def canon (ws:List Nat) (k:Nat):Nat:=ws.foldl (fun s j=>if j<k then max s (j+1) else s) 0
def gl (ws:List Nat) (ms:List Nat) (k p:Nat):Bool:=ws.all fun j=>(!((ms.getD k 0).testBit j)||Nat.blt j p)&&(!((ms.getD j 0).testBit k)||Nat.ble p j)
def o9 (P:Program) (ops:List Oper) (ms:List Nat) (h:j3):Bool :=
 let ws:=uI P ops.zipIdx
 ops.zipIdx.all fun (o,k)=>match kindOf P o.op with
  | .L=>(0::ws.map (· + 1)).all fun p => !(gl ws ms k p)||(Nat.beq p (canon ws k)||(match cO ops (h.at k).1 o with
    | some true=>decide (rM P o.op (pd (h.at k).1) (SJ P ops h p)=rM P o.op (pd (h.at k).1) (h.at k).2.get)
    | _=>true))
  | _=>true
def AD (P:Program) (aa:ak) (ops:List Oper) (ms:List Nat):List Oper->j3->List T×St->Option (List T×St)
 | [],h,s=>if o9 P ops ms (h++[s]) then some s else none
 | o::r,h,s=>match step P aa ops o s with
   | some s'=>AD P aa ops ms r (h++[s]) s'
   | none=>none
def sB (P:Program) (aa:ak) (ops:List Oper) (s:List T×St):Option (List T×St) :=
 if P.follows .mixedOrders&&gJ P ops (dh ops) then AD P aa ops (dh ops) ops [] s else none
theorem Cm (acc:List Nat):∀ (ds:List Nat) (s j:Nat),(ds.foldl (fun s e=>s ||| (2 ^ e ||| acc.getD e 0)) s).testBit j=true →
 s.testBit j=true\/∃ e∈ds,j=e\/(acc.getD e 0).testBit j=true:=by
 intro ds
 induction ds with
 | nil=>intro s j h;exact .inl h
 | cons d ds ih =>
   intro s j h
   rw [List.foldl_cons] at h
   rcases ih _ j h with h | ⟨e,he,h⟩
   · rw [Nat.testBit_or,Nat.testBit_or,Bool.or_eq_true,Bool.or_eq_true] at h
     rcases h with h | h | h
     · exact .inl h
     · rw [Nat.testBit_two_pow] at h
       have h':d=j:=by simpa using h
       exact .inr ⟨d,by simp,.inl h'.symm⟩
     · exact .inr ⟨d,by simp,.inr h⟩
   · exact .inr ⟨e,by simp [he],h⟩
theorem x6:∀ (l:List Oper) (acc:List Nat),(eW l acc).length=acc.length+l.length/\(∀ k,k<acc.length->(eW l acc).getD k 0=acc.getD k 0) ∧
 ∀ (i:Nat) (o:Oper),l[i]? = some o->∃ pre:List Nat,(eW l acc).getD (acc.length+i) 0=nC pre (bI o)/\∀ e,e<acc.length+i->pre.getD e 0=(eW l acc).getD e 0:=by
 intro l
 induction l with
 | nil=>intro acc;exact ⟨by simp [eW],fun _ _=>rfl,fun i o h=>by simp at h⟩
 | cons o l ih =>
   intro acc
   obtain ⟨h1,h2,h3⟩:=ih (acc++[nC acc (bI o)])
   have hlen:(acc++[nC acc (bI o)]).length=acc.length+1:=by simp
   have hpre:∀ k,k<acc.length->(acc++[nC acc (bI o)]).getD k 0=acc.getD k 0:=by
    intro k hk
    rw [List.getD_eq_getElem?_getD,List.getD_eq_getElem?_getD,List.getElem?_append_left hk]
   refine ⟨by simp only [eW];rw [h1,hlen];simp;omega,?_,?_⟩
   · intro k hk
     simp only [eW]
     rw [h2 k (by omega),hpre k hk]
   · intro i o' hi
     cases i with
     | zero =>
       simp only [List.getElem?_cons_zero,Option.some.injEq] at hi
       subst hi
       refine ⟨acc,?_,?_⟩
       · simp only [eW,Nat.add_zero]
         rw [h2 acc.length (by omega),List.getD_eq_getElem?_getD,List.getElem?_append_right (Nat.le_refl _)]
         simp
       · intro e he
         simp only [eW]
         rw [h2 e (by omega),hpre e (by omega)]
     | succ i =>
       obtain ⟨pre,hp1,hp2⟩:=h3 i o' (by simpa using hi)
       have e1:acc.length+(i+1)=(acc++[nC acc (bI o)]).length+i:=by omega
       simp only [eW]
       rw [e1]
       exact ⟨pre,hp1,hp2⟩
theorem Fa {ops:List Oper} {k j:Nat} {o:Oper} (hk:ops[k]? = some o) (hd:∀ e∈bI o,e<k) (h:((dh ops).getD k 0).testBit j=true) :
 ∃ e∈bI o,j=e\/((dh ops).getD e 0).testBit j=true:=by
 obtain ⟨_,_,h3⟩:=x6 ops []
 obtain ⟨pre,hp1,hp2⟩:=h3 k o hk
 simp only [List.length_nil,Nat.zero_add] at hp1 hp2
 have:(dh ops).getD k 0=nC pre (bI o):=hp1
 rw [this] at h
 rcases Cm pre (bI o) 0 j h with h | ⟨e,he,h⟩
 · simp at h
 · refine ⟨e,he,?_⟩
   rcases h with h | h
   · exact .inl h
   · rw [hp2 e (hd e he)] at h;exact .inr h
theorem nt {ops:List Oper} (hd:∀ k o,ops[k]? = some o->∀ e∈bI o,e<k) (D:Nat->Prop) (hD:∀ k o,ops[k]? = some o->D k->∀ e∈bI o,D e) :
 ∀ (k:Nat) (o:Oper) (j:Nat),ops[k]? = some o->(∀ e∈bI o,D e)->((dh ops).getD k 0).testBit j=true->D j:=by
 intro k
 induction k using Nat.strongRecOn with
 | _ k ih =>
   intro o j hk he h
   obtain ⟨e,gG,h⟩:=Fa hk (hd k o hk) h
   rcases h with rfl | h
   · exact he _ gG
   · have hlt:=hd k o hk e gG
     have eZ:=(List.getElem?_eq_some_iff.1 hk).1
     have hoe:ops[e]? = some (ops[e]'(by omega)):=List.getElem?_eq_getElem (by omega)
     exact ih e hlt _ j hoe (hD e _ hoe (he e gG)) h
theorem sZ (ws:List Nat) (k:Nat):canon ws k<=k/\(∀ j∈ws,j<k->j<canon ws k)/\(canon ws k=0\/∃ j∈ws,canon ws k=j+1):=by
 have key:∀ (ws:List Nat) (s:Nat),s<=k->(s<=ws.foldl (fun s j=>if j<k then max s (j+1) else s) s)/\ws.foldl (fun s j=>if j<k then max s (j+1) else s) s<=k ∧
  (∀ j∈ws,j<k->j<ws.foldl (fun s j=>if j<k then max s (j+1) else s) s) ∧
  (ws.foldl (fun s j=>if j<k then max s (j+1) else s) s=s\/∃ j∈ws,ws.foldl (fun s j=>if j<k then max s (j+1) else s) s=j+1):=by
  intro ws
  induction ws with
  | nil=>intro s hs;exact ⟨Nat.le_refl _,hs,fun j hj=>by simp at hj,.inl rfl⟩
  | cons a ws ih =>
    intro s hs
    rw [List.foldl_cons]
    obtain ⟨h1,h2,h3,h4⟩:=ih (if a<k then max s (a+1) else s) (by split<;>omega)
    refine ⟨?_,h2,?_,?_⟩
    · by_cases XG:a<k
      · rw [if_pos XG] at h1 ⊢;omega
      · rw [if_neg XG] at h1 ⊢;omega
    · intro j hj hjk
      cases hj with
      | head =>
        rw [if_pos hjk] at h1 ⊢
        omega
      | tail _ hj=>exact h3 j hj hjk
    · rcases h4 with h4 | ⟨j,hj,h4⟩
      · rw [h4]
        split
        · rename_i XG
          by_cases hm:s<=a+1
          · exact .inr ⟨a,by simp,by omega⟩
          · exact .inl (by omega)
        · exact .inl rfl
      · exact .inr ⟨j,by simp [hj],h4⟩
 obtain ⟨_,h2,h3,h4⟩:=key ws 0 (Nat.zero_le _)
 exact ⟨h2,h3,h4⟩
structure pq (P:Program) (aa:ak) (ops:List Oper) (st:Nat->List T×St):Prop where
 step:∀ k o,ops[k]? = some o->step P aa ops o (st k)=some (st (k+1))
 wf0:(st 0).2.wf
def dx (st:Nat->List T×St) (n:Nat):j3:=(List.range n).map st
theorem pW (st:Nat->List T×St) {n k:Nat} (h:k<n):(dx st n).at k=st k:=by
 simp [j3.at,dx,List.getD_eq_getElem?_getD,List.getElem?_map,List.getElem?_range h]
theorem qJ (st:Nat->List T×St) (n:Nat):dx st (n+1)=dx st n++[st n]:=by
 simp [dx,List.range_succ]
theorem OH {P:Program} {aa:ak} {ops:List Oper} {ms:List Nat}:∀ (l:List Oper) (k:Nat) (st:Nat->List T×St) (s s':List T×St),ops.drop k=l->k<=ops.length->st k=s →
 (∀ j o,j<k->ops[j]? = some o->step P aa ops o (st j)=some (st (j+1)))->AD P aa ops ms l (dx st k) s=some s' →
 ∃ Sn:Nat->List T×St,(∀ j,j<=k->Sn j=st j)/\(∀ j o,ops[j]? = some o->step P aa ops o (Sn j)=some (Sn (j+1)))/\Sn ops.length=s'/\o9 P ops ms (dx Sn (ops.length+1))=true:=by
 intro l
 induction l with
 | nil =>
   intro k st s s' hd eZ hst IE h
   simp only [AD] at h
   split at h
   · rename_i hw
     cases h
     have hk:k=ops.length:=by
      have:=congrArg List.length hd
      simp at this
      omega
     subst hk
     refine ⟨st,fun _ _=>rfl,fun j o hj=>IE j o (List.getElem?_eq_some_iff.1 hj).1 hj,hst,?_⟩
     rw [qJ,hst];exact hw
   · cases h
 | cons o l ih =>
   intro k st s s' hd eZ hst IE h
   have hk:ops[k]? = some o:=by
    have:=congrArg (·[0]?) hd
    simpa using this
   have Ye:=(List.getElem?_eq_some_iff.1 hk).1
   have ky:ops.drop (k+1)=l:=by
    have:=congrArg List.tail hd
    simpa using this
   simp only [AD] at h
   split at h
   · rename_i s1 h1
     let yB:Nat->List T×St:=fun j=>if j=k+1 then s1 else st j
     have e0:∀ j,j<=k->yB j=st j:=fun j hj=>by simp only [yB];rw [if_neg (by omega)]
     have e1:yB (k+1)=s1:=by simp only [yB,if_true]
     have hh:dx st k++[s]=dx yB (k+1):=by
      rw [qJ,e0 k (Nat.le_refl _),hst]
      congr 1
      simp only [dx]
      apply List.map_congr_left
      intro j hj
      rw [e0 j (by have:=List.mem_range.1 hj;omega)]
     rw [hh] at h
     obtain ⟨Sn,h1',Wn,h3',h4'⟩:=ih (k+1) yB s1 s' ky Ye e1 (by
      intro j o' hj si
      rcases Nat.lt_or_ge j k with hjk | hjk
      · rw [e0 j (by omega),e0 (j+1) (by omega)];exact IE j o' hjk si
      · have:j=k:=by omega
        subst this
        rw [hk] at si;cases si
        rw [e0 j (Nat.le_refl _),e1,hst];exact h1) h
     exact ⟨Sn,fun j hj=>by rw [h1' j (by omega),e0 j hj],Wn,h3',h4'⟩
   · cases h
section
variable {P:Program} {aa:ak} {ops:List Oper} {st:Nat->List T×St}
theorem uE {o:Oper} {s s':List T×St} (h:step P aa ops o s=some s'):∃ v,s'.1=cY s.1 o.dst v:=by
 unfold step at h
 (repeat' split at h)<;>first | (cases h;done) | (cases h;exact ⟨_,rfl⟩)
theorem pq.wf (hs:aM P aa) (h:pq P aa ops st):∀ k,k<=ops.length->(st k).2.wf:=by
 intro k
 induction k with
 | zero=>intro _;exact h.wf0
 | succ k ih =>
   intro hk
   have ho:ops[k]? = some ops[k]:=List.getElem?_eq_getElem (by omega)
   exact (sF hs (h.step k _ ho) (ih (by omega))).1
theorem pq.size (hs:aM P aa) (h:pq P aa ops st):∀ d k,k+d<=ops.length->(st k).2.size<=(st (k+d)).2.size:=by
 intro d
 induction d with
 | zero=>intro k _;exact Nat.le_refl _
 | succ d ih =>
   intro k hk
   have ho:ops[k+d]? = some ops[k+d]:=List.getElem?_eq_getElem (by omega)
   exact Nat.le_trans (ih k (by omega)) (sF hs (h.step (k+d) _ ho) (h.wf hs (k+d) (by omega))).2
theorem pq.size_le (hs:aM P aa) (h:pq P aa ops st) {j k:Nat} (hjk:j<=k) (hk:k<=ops.length):(st j).2.size<=(st k).2.size:=by
 have:=h.size hs (k-j) j (by omega)
 rwa [show j+(k-j)=k from by omega] at this
theorem Av (env:List T) (d:Option Tmp) (v:T):(cY env d v).length=env.length:=by cases d<;>simp [cY]
theorem Ou (env:List T) {d:Option Tmp} {t:Nat} (v:T) (h:d≠some t):(cY env d v).getD t .any=env.getD t .any:=by
 cases d with
 | none=>rfl
 | some d =>
   simp only [cY]
   rw [tF,if_neg (fun e=>h (by rw [e.1]))]
theorem pq.len (h:pq P aa ops st):∀ k,k<=ops.length->(st k).1.length=(st 0).1.length:=by
 intro k
 induction k with
 | zero=>intro _;rfl
 | succ k ih =>
   intro hk
   have ho:ops[k]? = some ops[k]:=List.getElem?_eq_getElem (by omega)
   obtain ⟨v,hv⟩:=uE (h.step k _ ho)
   rw [hv,Av,ih (by omega)]
theorem pq.jO (h:pq P aa ops st) (t:Nat):∀ (d k:Nat),k+d<=ops.length->(∀ j o,k<=j->j<k+d->ops[j]? = some o->o.dst≠some t)->(st (k+d)).1.getD t .any=(st k).1.getD t .any:=by
 intro d
 induction d with
 | zero=>intro k _ _;rfl
 | succ d ih =>
   intro k hk hn
   have ho:ops[k+d]? = some ops[k+d]:=List.getElem?_eq_getElem (by omega)
   obtain ⟨v,hv⟩:=uE (h.step (k+d) _ ho)
   rw [← Nat.add_assoc,hv,Ou _ _ (hn (k+d) _ (by omega) (by omega) ho)]
   exact ih k (by omega) fun j o h1 h2=>hn j o h1 (by omega)
def yR (P:Program) (ops:List Oper) (st:Nat->List T×St) (q:Nat) (b:dV):Prop :=
 ∃ o f,ops[q]? = some o/\kindOf P o.op = .A/\cO ops (st q).1 o=some true/\yc P o.op (pd (st q).1)=some (b,f)
theorem iR (h:pq P aa ops st) {q:Nat} {b:dV} (ha:yR P ops st q b):(st (q+1)).2=(st q).2.push b:=by
 obtain ⟨o,f,ho,hk,hw,hb⟩:=ha
 have:=h.step q o ho
 unfold step at this
 rw [hw] at this
 simp only [hk,hb] at this
 rw [← Option.some.inj this]
theorem Cq (h:pq P aa ops st) {k:Nat} {o:Oper} (ho:ops[k]? = some o) (hw:pj P o=false\/cO ops (st k).1 o=some false) :
 (st (k+1)).2=(st k).2\/∃ b,yR P ops st k b:=by
 have hst:=h.step k o ho
 unfold step at hst
 split at hst
 · cases hst
 · rename_i h0
   left
   rw [← Option.some.inj hst]
 · rename_i h1
   split at hst
   · split at hst
     · left;rw [← Option.some.inj hst]
     · cases hst
   · split at hst
     · left;rw [← Option.some.inj hst]
     · cases hst
   · rename_i hk
     split at hst
     · rename_i b f hb
       right;exact ⟨b,o,f,ho,hk,h1,hb⟩
     · cases hst
   · rename_i hk
     rcases hw with hw | hw
     · simp [pj,hk] at hw
     · rw [h1] at hw;cases hw
theorem oK (p:Nat) (g:Mem) (i:Nat):∀ (l:List (Nat×Nat×dV)),(∀ q j b,(q,j,b)∈l->p<=q->j≠i)->cA p g l i=g i:=by
 intro l
 induction l with
 | nil=>intro _;rfl
 | cons a l ih =>
   intro h
   obtain ⟨q,j,b⟩:=a
   simp only [cA]
   have zR:=ih fun q' j' b' hm=>h q' j' b' (by simp [hm])
   cases hq:Nat.ble p q with
   | true =>
     simp only
     rw [iy _ _ (Ne.symm (h q j b (by simp) (Nat.le_of_ble_eq_true hq)))]
     exact zR
   | false=>exact zR
theorem Ap (p:Nat) (g:Mem) (i:Nat) (b:dV):∀ (l:List (Nat×Nat×dV)),(∃ q,(q,i,b)∈l/\p<=q)->(∀ q b',(q,i,b')∈l->p<=q->b'=b)->cA p g l i=some b:=by
 intro l
 induction l with
 | nil=>rintro ⟨q,h,_⟩;simp at h
 | cons a l ih =>
   rintro ⟨q,hm,hq⟩ hu
   obtain ⟨q',j,b'⟩:=a
   simp only [cA]
   by_cases hp:p<=q'
   · rw [Nat.ble_eq_true_of_le hp]
     simp only
     by_cases hj:i=j
     · subst hj
       rw [qu,hu q' b' (by simp) hp]
     · rw [iy _ _ hj]
       refine ih ?_ fun q Xi h1 h2=>hu q Xi (by simp [h1]) h2
       cases hm with
       | head=>exact (hj rfl).elim
       | tail _ hm=>exact ⟨q,hm,hq⟩
   · have:Nat.ble p q'=false:=by
      cases h:Nat.ble p q' with
      | true=>exact (hp (Nat.le_of_ble_eq_true h)).elim
      | false=>rfl
     rw [this]
     simp only
     refine ih ?_ fun q Xi h1 h2=>hu q Xi (by simp [h1]) h2
     cases hm with
     | head=>exact (hp hq).elim
     | tail _ hm=>exact ⟨q,hm,hq⟩
theorem vq {h:j3} {n:Nat} (hh:h=dx st n) (q i:Nat) (b:dV):∀ (l:List (Oper×Nat)),(∀ o k,(o,k)∈l->k<n/\ops[k]? = some o) →
 ((q,i,b)∈lE P ops h l↔(∃ o,(o,q)∈l)/\i=(st q).2.size/\yR P ops st q b):=by
 subst hh
 intro l
 induction l with
 | nil=>intro _;simp [lE]
 | cons a l ih =>
   intro hl
   obtain ⟨o,k⟩:=a
   obtain ⟨hk,ho⟩:=hl o k (by simp)
   have zR:=ih fun o' k' hm=>hl o' k' (by simp [hm])
   have hat:=pW st hk
   have only:∀ b',yR P ops st k b'->kindOf P o.op = .A/\cO ops (st k).1 o=some true/\∃ f,yc P o.op (pd (st k).1)=some (b',f):=by
    rintro b' ⟨o',f,h1,h2,h3,h4⟩
    rw [ho] at h1;cases h1
    exact ⟨h2,h3,f,h4⟩
   have R5:(¬ ∃ b',yR P ops st k b')->(((q,i,b)∈lE P ops (dx st n) l↔(∃ o',(o',q)∈(o,k)::l)/\i=(st q).2.size/\yR P ops st q b)):=by
    intro hno
    rw [zR]
    constructor
    · rintro ⟨⟨o',hm⟩,h2,h3⟩
      exact ⟨⟨o',by simp [hm]⟩,h2,h3⟩
    · rintro ⟨⟨o',hm⟩,h2,h3⟩
      refine ⟨?_,h2,h3⟩
      simp only [List.mem_cons,Prod.mk.injEq] at hm
      rcases hm with ⟨_,rfl⟩ | hm
      · exact (hno ⟨b,h3⟩).elim
      · exact ⟨o',hm⟩
   simp only [lE,hat]
   split
   · rename_i Pb
     split
     · rename_i hw
       split
       · rename_i b' f hb
         have hA:yR P ops st k b':=⟨o,f,ho,Pb,hw,hb⟩
         rw [List.mem_cons,zR]
         constructor
         · rintro (he | ⟨⟨o',hm⟩,h2,h3⟩)
           · simp only [Prod.mk.injEq] at he
             obtain ⟨rfl,rfl,rfl⟩:=he
             exact ⟨⟨o,by simp⟩,rfl,hA⟩
           · exact ⟨⟨o',by simp [hm]⟩,h2,h3⟩
         · rintro ⟨⟨o',hm⟩,h2,h3⟩
           simp only [List.mem_cons,Prod.mk.injEq] at hm
           rcases hm with ⟨_,rfl⟩ | hm
           · obtain ⟨_,_,f',hb'⟩:=only b h3
             rw [hb] at hb';cases hb'
             left;rw [h2]
           · right;exact ⟨⟨o',hm⟩,h2,h3⟩
       · rename_i hb
         refine R5 ?_
         rintro ⟨b',hA⟩
         obtain ⟨_,_,f',hb'⟩:=only b' hA
         rw [hb] at hb';cases hb'
     · rename_i hw
       refine R5 ?_
       rintro ⟨b',hA⟩
       exact hw (only b' hA).2.1
   · rename_i Pb
     refine R5 ?_
     rintro ⟨b',hA⟩
     exact Pb (only b' hA).1
theorem eA {l:List Oper} {o:Oper} {k:Nat}:(o,k)∈l.zipIdx↔l[k]? = some o:=by
 rw [List.mem_zipIdx_iff_getElem?]
def X (P:Program) (ops:List Oper) (st:Nat->List T×St) (p:Nat):Mem:=SJ P ops (dx st (ops.length+1)) p
theorem qA (hs:aM P aa) (h:pq P aa ops st) {p q:Nat} {b:dV} (ha:yR P ops st q b) (hpq:p<=q):X P ops st p (st q).2.size=some b:=by
 have gG:=fun (q i:Nat) (b:dV)=>vq (P:=P) (ops:=ops) (st:=st) rfl q i b ops.zipIdx (n:=ops.length+1) (fun o k hm=>by
  have:=eA.1 hm
  exact ⟨by have:=(List.getElem?_eq_some_iff.1 this).1;omega,this⟩)
 refine Ap p _ _ b _ ?_ ?_
 · refine ⟨q,(gG q _ b).2 ⟨?_,rfl,ha⟩,hpq⟩
   obtain ⟨o,f,ho,_⟩:=ha
   exact ⟨o,eA.2 ho⟩
 · intro q' b' hm qK
   obtain ⟨_,hsz,Ds⟩:=(gG q' _ b').1 hm
   have yO:q<ops.length:=by obtain ⟨o,f,ho,_⟩:=ha;exact (List.getElem?_eq_some_iff.1 ho).1
   have aaA:q'<ops.length:=by obtain ⟨o,f,ho,_⟩:=Ds;exact (List.getElem?_eq_some_iff.1 ho).1
   have e1:=iR h ha
   have e2:=iR h Ds
   rcases Nat.lt_trichotomy q q' with hlt | rfl | hlt
   · have:=h.size_le hs (show q+1<=q' from hlt) (by omega)
     rw [e1] at this;simp at this;omega
   · obtain ⟨o,f,ho,_,_,hb⟩:=ha
     obtain ⟨o',f',si,_,_,hb'⟩:=Ds
     rw [ho] at si;cases si
     rw [hb] at hb';cases hb';rfl
   · have:=h.size_le hs (show q'+1<=q from hlt) (by omega)
     rw [e2] at this;simp at this;omega
theorem lD {p i:Nat} (hp:p<=ops.length) (hn:∀ q b,yR P ops st q b->p<=q->(st q).2.size≠i):X P ops st p i=(st p).2.get i:=by
 have gG:=fun (q i:Nat) (b:dV)=>vq (P:=P) (ops:=ops) (st:=st) rfl q i b ops.zipIdx (n:=ops.length+1) (fun o k hm=>by
  have:=eA.1 hm
  exact ⟨by have:=(List.getElem?_eq_some_iff.1 this).1;omega,this⟩)
 unfold X SJ
 rw [oK]
 · rw [pW st (by omega)]
 · intro q j b hm hq e
   obtain ⟨_,hsz,ha⟩:=(gG q j b).1 hm
   exact hn q b ha hq (hsz.symm.trans e)
theorem vp (hs:aM P aa) (h:pq P aa ops st) {p i:Nat} (hp:p<=ops.length) (hi:i<(st p).2.size):X P ops st p i=(st p).2.get i:=by
 refine lD hp fun q b ha hpq e => ?_
 have yO:q<ops.length:=by obtain ⟨o,f,ho,_⟩:=ha;exact (List.getElem?_eq_some_iff.1 ho).1
 have:=h.size_le hs hpq (by omega)
 omega
theorem GA (hs:aM P aa) (h:pq P aa ops st) {k:Nat} {o:Oper} (ho:ops[k]? = some o) (hw:pj P o=false\/cO ops (st k).1 o=some false):X P ops st k=X P ops st (k+1):=by
 have hk:=(List.getElem?_eq_some_iff.1 ho).1
 funext i
 by_cases hex:∃ q b,yR P ops st q b/\k+1<=q/\(st q).2.size=i
 · obtain ⟨q,b,ha,hq,rfl⟩:=hex
   rw [qA hs h ha (by omega),qA hs h ha hq]
 · rcases Cq h ho hw with hsame | ⟨b,ha⟩
   · rw [lD (p:=k+1) (by omega) (fun q b ha hq e=>hex ⟨q,b,ha,hq,e⟩),hsame]
     refine lD (by omega) fun q b ha hq e => ?_
     rcases Nat.lt_or_ge k q with hlt | hge
     · exact hex ⟨q,b,ha,hlt,e⟩
     · have:q=k:=by omega
       subst this
       have:=iR h ha
       rw [hsame] at this
       have:=congrArg St.size this
       simp at this
   · rw [lD (p:=k+1) (by omega) (fun q b ha hq e=>hex ⟨q,b,ha,hq,e⟩),iR h ha]
     by_cases e:i=(st k).2.size
     · subst e;rw [qA hs h ha (Nat.le_refl _),St.aq]
     · rw [St.aD _ _ e]
       refine lD (by omega) fun q b' Ds hq e' => ?_
       rcases Nat.lt_or_ge k q with hlt | hge
       · exact hex ⟨q,b',Ds,hlt,e'⟩
       · have:q=k:=by omega
         subst this
         exact e e'.symm
theorem Gz (hs:aM P aa) (h:pq P aa ops st):∀ (d k:Nat),k+d<=ops.length->(∀ j o,k<=j->j<k+d->ops[j]? = some o->pj P o=false)->X P ops st k=X P ops st (k+d):=by
 intro d
 induction d with
 | zero=>intro k _ _;rfl
 | succ d ih =>
   intro k hk hn
   have ho:ops[k+d]? = some ops[k+d]:=List.getElem?_eq_getElem (by omega)
   rw [ih k (by omega) fun j o h1 h2=>hn j o h1 (by omega),← Nat.add_assoc]
   exact GA hs h ho (.inl (hn (k+d) _ (by omega) (by omega) ho))
end
section
variable {P:Program} {aa:ak} {ops:Array Oper} {st:Nat->List T×St}
theorem qT {o:Oper} {e:Nat}:e∈bI o↔∃ d∈o.after,Region.binds .any d=true/\d.on=e:=by
 simp only [bI,List.mem_map,List.mem_filter]
 constructor
 · rintro ⟨d,⟨h1,h2⟩,h3⟩;exact ⟨d,by simpa using h1,h2,h3⟩
 · rintro ⟨d,h1,h2,h3⟩;exact ⟨d,⟨by simpa using h1,h2⟩,h3⟩
structure Static (P:Program) (ops:Array Oper):Prop where
 low:∀ (k:Nat) (o:Oper),ops.toList[k]? = some o->∀ e∈bI o,e<k
 uniq:∀ (k:Nat) (o:Oper) (j:Nat) (oj:Oper) (d:Tmp),ops[k]? = some o->ops[j]? = some oj->j≠k->oj.dst=some d->o.dst≠some d
 read:∀ (k:Nat) (o:Oper) (j:Nat) (oj:Oper) (d:Tmp),ops[k]? = some o->ops[j]? = some oj->j≠k->oj.dst=some d->d∈reads ops.toList o →
  (j<k->((dh ops.toList).getD k 0).testBit j=true)/\(¬ j<k->((dh ops.toList).getD j 0).testBit k=true)
 ws:∀ (k:Nat) (o:Oper) (j:Nat) (oj:Oper),ops[k]? = some o->ops[j]? = some oj->pj P o=true->pj P oj=true->j<k->((dh ops.toList).getD k 0).testBit j=true
theorem xq {a b:Nat}:Nat.blt a b=true↔a<b:=by
 simp [Nat.blt,Nat.ble_eq];omega
theorem zj {a b:Nat}:Nat.beq a b=true↔a=b:=⟨Nat.eq_of_beq_eq_true,fun h=>by subst h;simp⟩
theorem FK (h:gJ P ops.toList (dh ops.toList)=true):Static P ops:=by
 have hall:∀ (k:Nat) (o:Oper),ops[k]? = some o->(∀ e∈bI o,e<k)/\∀ (j:Nat) (oj:Oper),ops[j]? = some oj->Cy P ops.toList (dh ops.toList) k o j oj=true:=by
  intro k o ho
  simp only [gJ,List.all_eq_true] at h
  have:=h (o,k) (eA.2 (by rw [Array.getElem?_toList];exact ho))
  simp only [Bool.and_eq_true,List.all_eq_true] at this
  refine ⟨fun e he=>xq.1 (this.1 e he),fun j oj hj => ?_⟩
  exact this.2 (oj,j) (eA.2 (by rw [Array.getElem?_toList];exact hj))
 have hp:∀ (k:Nat) (o:Oper) (j:Nat) (oj:Oper),ops[k]? = some o->ops[j]? = some oj->j≠k->(∀ d,oj.dst=some d->o.dst≠some d/\(d∈reads ops.toList o →
  (if j<k then ((dh ops.toList).getD k 0).testBit j else ((dh ops.toList).getD j 0).testBit k)=true)) ∧
  (pj P o=true->pj P oj=true->j<k->((dh ops.toList).getD k 0).testBit j=true):=by
  intro k o j oj ho hj hne
  have Nx:=(hall k o ho).2 j oj hj
  unfold Cy at Nx
  rw [Bool.or_eq_true] at Nx
  rcases Nx with Nx | Nx
  · exact (hne (zj.1 Nx)).elim
  · rw [Bool.and_eq_true] at Nx
    refine ⟨?_,?_⟩
    · intro d hd
      have h1:=Nx.1
      rw [hd] at h1
      simp only [Bool.and_eq_true,Bool.or_eq_true,Bool.not_eq_true'] at h1
      refine ⟨by simpa using h1.1,fun hm => ?_⟩
      rcases h1.2 with h2 | h2
      · rw [List.contains_eq_mem] at h2
        simp at h2;exact (h2 hm).elim
      · exact h2
    · intro h1 h2 h3
      have h4:=Nx.2
      simp only [h1,h2,Bool.not_true,Bool.false_or,Bool.or_eq_true,Bool.not_eq_true'] at h4
      rcases h4 with h4 | h4
      · have:=xq.2 h3;rw [this] at h4;cases h4
      · exact h4
 refine ⟨fun k o ho=>(hall k o (by rw [← Array.getElem?_toList];exact ho)).1,?_,?_,?_⟩
 · intro k o j oj d ho hj hne hd
   exact ((hp k o j oj ho hj hne).1 d hd).1
 · intro k o j oj d ho hj hne hd hm
   have:=((hp k o j oj ho hj hne).1 d hd).2 hm
   constructor
   · intro hlt;rwa [if_pos hlt] at this
   · intro hlt;rwa [if_neg hlt] at this
 · intro k o j oj ho hj h1 h2 hlt
   exact (hp k o j oj ho hj (by omega)).2 h1 h2 hlt
def gL (listed:Array Bool) (k:Nat):Prop:=listed.getD k false=true
structure Far (ι0:bV) (Gt σn:St) (w0:World) (ι:bV) (g:Mem) (w:World):Prop where
 agree:∀ i,(i<Gt.size\/σn.size<=i)->ι i=ι0 i
 own:∀ i,i<Gt.size->live (g i)->live (Gt.get i)
 hold:∀ i,i<Gt.size->held (g i)->held (Gt.get i)
 ghost:∀ i,i<Gt.size->ι0 i=none->g i=Gt.get i
 fresh:∀ i L,Gt.size<=i->i<σn.size->ι i=some L->held (g i)->w0.heap.size<=L.b\/∃ j M,j<Gt.size/\ι0 j=some M/\M.b=L.b/\live (Gt.get j)
 os:w.os=w0.os
 output:w.output=w0.output
 hsize:w0.heap.size<=w.heap.size
 keep:∀ k,k<w0.heap.size->(∀ i L,i<Gt.size->ι0 i=some L->live (Gt.get i)->L.b≠k)->w.heap[k]? = w0.heap[k]?
structure Inv (P:Program) (ops:Array Oper) (st:Nat->List T×St) (ι0:bV) (w0:World) (a0:Act) (listed:Array Bool) (a:Act) (w:World) (p:Nat) (ι:bV):Prop where
 WV:listed.size=ops.size
 closed:∀ (k:Nat) (o:Oper),ops.toList[k]? = some o->gL listed k->∀ e∈bI o,gL listed e
 W4:p<=ops.size
 below:∀ (j:Nat) (o:Oper),ops[j]? = some o->pj P o=true->(gL listed j↔j<p)
 len:(st 0).1.length<=a.tmps.size
 defers:a.defers=a0.defers
 put:∀ (t j:Nat) (o:Oper),ops[j]? = some o->o.dst=some t->gL listed j->aK ι ((st (j+1)).1.getD t .any) (a.tmps.getD t undef)
 old:∀ (t:Nat),(∀ (j:Nat) (o:Oper),ops[j]? = some o->o.dst=some t->¬ gL listed j)->aK ι ((st 0).1.getD t .any) (a.tmps.getD t undef)
 rel:Rel ι (X P ops.toList st p) w
 ghost:∀ k,k<ops.size->¬ gL listed k->∀ i,(st k).2.size<=i->i<(st (k+1)).2.size->ι i=none
 pend:∀ q b,yR P ops.toList st q b->¬ gL listed q->X P ops.toList st p (st q).2.size=some b
 TQ:Far ι0 (st 0).2 (st ops.size).2 w0 ι (X P ops.toList st p) w
variable {ι0:bV} {w0:World} {a0:Act} {listed:Array Bool} {a:Act} {w:World} {p:Nat} {ι:bV}
theorem N2 {k j:Nat} (hk:k<listed.size):gL (listed.setIfInBounds k true) j↔j=k\/gL listed j:=by
 unfold gL
 by_cases e:j=k
 · subst e;simp [hk]
 · rw [getD_set_ne false (Ne.symm e)]
   simp [e]
theorem CU {k:Nat} {o:Oper} (h:ops[k]? = some o):ops.toList[k]? = some o:=by rw [Array.getElem?_toList];exact h
theorem KU {k:Nat} {o:Oper} (h:ops.toList[k]? = some o):ops[k]? = some o:=by rw [← Array.getElem?_toList];exact h
theorem N3 {k:Nat} {o:Oper} (h:ops[k]? = some o):k<ops.size:=(Array.getElem?_eq_some_iff.1 h).1
theorem Inv.slot (h:pq P aa ops.toList st) (hS:Static P ops) (I:Inv P ops st ι0 w0 a0 listed a w p ι) {k:Nat} {o:Oper} (ho:ops[k]? = some o) (hk:¬ gL listed k) (fH:∀ e∈bI o,gL listed e)
 {t:Nat} (ht:t∈reads ops.toList o):aK ι ((st k).1.getD t .any) (a.tmps.getD t undef):=by
 have hkn:=N3 ho
 have hlen:ops.toList.length=ops.size:=Array.length_toList
 have B5:=nt hS.low (gL listed) I.closed
 by_cases hex:∃ (j:Nat) (oj:Oper),ops[j]? = some oj/\oj.dst=some t
 · obtain ⟨j,oj,hj,hd⟩:=hex
   have zT:∀ (j':Nat) (W3:Oper),ops[j']? = some W3->W3.dst=some t->j'=j:=by
    intro j' W3 hj' ky
    by_cases e:j'=j
    · exact e
    · exact (hS.uniq j oj j' W3 t hj hj' e ky hd).elim
   rcases Nat.lt_trichotomy j k with hlt | rfl | hgt
   · have hr:=(hS.read k o j oj t ho hj (by omega) hd ht).1 hlt
     have hL:gL listed j:=B5 k o j (CU ho) fH hr
     have e1:=h.jO t (k-(j+1)) (j+1) (by omega) (fun j' o' h1 h2 hj' ky=>by
      have:=zT j' o' (KU hj') ky;omega)
     rw [show j+1+(k-(j+1))=k from by omega] at e1
     rw [e1]
     exact I.put t j oj hj hd hL
   · have e1:=h.jO t j 0 (by omega) (fun j' o' h1 h2 hj' ky=>by
      have:=zT j' o' (KU hj') ky;omega)
     rw [Nat.zero_add] at e1
     rw [e1]
     exact I.old t fun j' o' hj' ky=>by rw [zT j' o' hj' ky];exact hk
   · have hr:=(hS.read k o j oj t ho hj (by omega) hd ht).2 (by omega)
     have S7:¬ gL listed j:=by
      intro hL
      exact hk (B5 j oj k (CU hj) (I.closed j oj (CU hj) hL) hr)
     have e1:=h.jO t k 0 (by omega) (fun j' o' h1 h2 hj' ky=>by
      have:=zT j' o' (KU hj') ky;omega)
     rw [Nat.zero_add] at e1
     rw [e1]
     exact I.old t fun j' o' hj' ky=>by rw [zT j' o' hj' ky];exact S7
 · have e1:=h.jO t k 0 (by omega) (fun j' o' h1 h2 hj' ky=>hex ⟨j',o',KU hj',ky⟩)
   rw [Nat.zero_add] at e1
   rw [e1]
   exact I.old t fun j' o' hj' ky=>(hex ⟨j',o',hj',ky⟩).elim
theorem Cn {t:Nat}:∀ {l:List Operand},Operand.tmp t∈l->t∈tmpsOf l:=by
 intro l
 induction l with
 | nil=>intro h;cases h
 | cons x l ih =>
   intro h
   cases h with
   | head=>simp [tmpsOf]
   | tail _ h=>cases x<;>simp [tmpsOf,ih h]
theorem Inv.operand (h:pq P aa ops.toList st) (hS:Static P ops) (I:Inv P ops st ι0 w0 a0 listed a w p ι) {k:Nat} {o:Oper} (ho:ops[k]? = some o) (hk:¬ gL listed k) (fH:∀ e∈bI o,gL listed e) :
 ∀ x∈o.op.operands,aK ι (pd (st k).1 x) (a.eval x):=by
 intro x hx
 cases x with
 | tmp t=>exact I.slot h hS ho hk fH (by simp only [reads,List.mem_append];exact .inl (Cn (by simpa using hx)))
 | const v =>
   simp only [pd,Act.eval]
   cases hv:BC v with
   | none=>trivial
   | some x=>exact nR hv
 | func f=>exact ⟨[],rfl,.nil⟩
 | global g=>trivial
theorem Inv.wanted (h:pq P aa ops.toList st) (hS:Static P ops) (I:Inv P ops st ι0 w0 a0 listed a w p ι) {k:Nat} {o:Oper} (ho:ops[k]? = some o) (hk:¬ gL listed k) (fH:∀ e∈bI o,gL listed e)
 {b:Bool} (hw:cO ops.toList (st k).1 o=some b):Region.wanted o (yielded ops a.tmps)=b:=by
 refine qw hw fun j want oj d hg hj hd=>I.slot h hS ho hk fH ?_
 simp only [reads,List.mem_append,pS,hg,CU hj,hd]
 exact .inr (by simp)
theorem Inv.place (hS:Static P ops) (I:Inv P ops st ι0 w0 a0 listed a w p ι) {k:Nat} {o:Oper} (ho:ops[k]? = some o) (hW:pj P o=true) (hk:¬ gL listed k) (fH:∀ e∈bI o,gL listed e) :
 p<=k/\(∀ (j:Nat) (oj:Oper),ops[j]? = some oj->pj P oj=true->(gL listed j↔j<k)):=by
 have B5:=nt hS.low (gL listed) I.closed
 have hpk:p<=k:=by
  rcases Nat.lt_or_ge k p with hlt | hge
  · exact (hk ((I.below k o ho hW).2 hlt)).elim
  · exact hge
 refine ⟨hpk,fun j oj hj vE=>⟨fun hL=>Nat.lt_of_lt_of_le ((I.below j oj hj vE).1 hL) hpk,fun hlt => ?_⟩⟩
 exact B5 k o j (CU ho) fH (hS.ws k o j oj ho hj hW vE hlt)
theorem PK (hs:aM P aa) (h:pq P aa ops.toList st) (I:Inv P ops st ι0 w0 a0 listed a w p ι) {k:Nat} (hk:k<=ops.size) (hpk:p<=k)
 (hno:∀ (j:Nat) (oj:Oper),ops[j]? = some oj->pj P oj=true->j<k->gL listed j):X P ops.toList st p=X P ops.toList st k:=by
 have hlen:ops.toList.length=ops.size:=Array.length_toList
 have:=Gz hs h (k-p) p (by omega) (fun j o h1 h2 ho=>by
  cases hw:pj P o with
  | false=>rfl
  | true =>
    have hL:=hno j o (KU ho) hw (by omega)
    have:=(I.below j o (KU ho) hw).1 hL
    omega)
 rwa [show p+(k-p)=k from by omega] at this
end
section
variable {P:Program} {aa:ak} {ops:Array Oper} {st:Nat->List T×St}
variable {ι0:bV} {w0:World} {a0:Act} {listed:Array Bool} {a:Act} {w:World} {p:Nat} {ι:bV}
theorem JW {κ:bV} {env:List T} {a:Act} {t:Nat} {tv:T} {v:Value} (hl:env.length<=a.tmps.size) (hT:aK κ tv v) :
 aK κ ((cY env (some t) tv).getD t .any) ((a.put (some t) v).tmps.getD t undef):=by
 simp only [cY,Act.put]
 rw [tF,pQ]
 by_cases h:t<env.length
 · rw [if_pos ⟨rfl,h⟩,if_pos ⟨rfl,Nat.lt_of_lt_of_le h hl⟩];exact hT
 · rw [if_neg (fun e=>h e.2)]
   have:env.getD t .any = .any:=by rw [List.getD_eq_getElem?_getD,List.getElem?_eq_none (Nat.le_of_not_lt h)];rfl
   rw [this];trivial
theorem wE {a:Act} {dst:Option Tmp} {t:Nat} {v:Value} (h:dst≠some t):(a.put dst v).tmps.getD t undef=a.tmps.getD t undef:=by
 cases dst with
 | none=>rfl
 | some d =>
   simp only [Act.put]
   rw [pQ,if_neg (fun e=>h (by rw [e.1]))]
theorem JV (a:Act) (dst:Option Tmp) (v:Value):(a.put dst v).tmps.size=a.tmps.size:=by cases dst<;>simp [Act.put]
theorem Inv.next (h:pq P aa ops.toList st) (hS:Static P ops) (I:Inv P ops st ι0 w0 a0 listed a w p ι) {k:Nat} {o:Oper} (ho:ops[k]? = some o) (hk:¬ gL listed k) (fH:∀ e∈bI o,gL listed e)
 {v:Value} {tv:T} {KY:bV} {w':World} {p':Nat} (hst:(st (k+1)).1=cY (st k).1 o.dst tv) (hT:aK KY tv v) (hle:ι.le KY) (hp':p'<=ops.size)
 (Rn:∀ (j:Nat) (o:Oper),ops[j]? = some o->pj P o=true->(j=k\/gL listed j↔j<p')) (ET:Rel KY (X P ops.toList st p') w')
 (Rt:∀ k',k'<ops.size->k'≠k->¬ gL listed k'->∀ i,(st k').2.size<=i->i<(st (k'+1)).2.size->KY i=none)
 (Uw:∀ q b,yR P ops.toList st q b->q≠k->¬ gL listed q->X P ops.toList st p' (st q).2.size=some b)
 (X5:Far ι0 (st 0).2 (st ops.size).2 w0 KY (X P ops.toList st p') w'):Inv P ops st ι0 w0 a0 (listed.setIfInBounds k true) (a.put o.dst v) w' p' KY:=by
 have hkn:=N3 ho
 have hlen:ops.toList.length=ops.size:=Array.length_toList
 have hls:∀ j,gL (listed.setIfInBounds k true) j↔j=k\/gL listed j:=fun j=>N2 (by rw [I.WV];exact hkn)
 refine ⟨by rw [Array.size_setIfInBounds];exact I.WV,?_,hp',?_,by rw [JV];exact I.len,by rw [put_defers];exact I.defers,?_,?_,ET,?_,?_,X5⟩
 · intro j oj hj hL e he
   rw [hls] at hL ⊢
   rcases hL with rfl | hL
   · rw [CU ho] at hj;cases hj
     exact .inr (fH e he)
   · exact .inr (I.closed j oj hj hL e he)
 · intro j oj hj hW
   rw [hls];exact Rn j oj hj hW
 · intro t j oj hj hd hL
   rw [hls] at hL
   by_cases e:j=k
   · subst e
     rw [ho] at hj;cases hj
     rw [hst,hd]
     exact JW (by rw [h.len j (by omega)];exact I.len) hT
   · rw [wE (hS.uniq k o j oj t ho hj e hd)]
     exact (I.put t j oj hj hd (hL.resolve_left e)).mono hle
 · intro t hn
   rw [wE (fun hd=>hn k o ho hd ((hls k).2 (.inl rfl)))]
   exact (I.old t fun j oj hj hd hL=>hn j oj hj hd ((hls j).2 (.inr hL))).mono hle
 · intro k' hk' hL i h1 h2
   rw [hls] at hL
   exact Rt k' hk' (fun e=>hL (.inl e)) (fun e=>hL (.inr e)) i h1 h2
 · intro q b hA hL
   rw [hls] at hL
   exact Uw q b hA (fun e=>hL (.inl e)) (fun e=>hL (.inr e))
theorem Inv.quiet (hs:aM P aa) (h:pq P aa ops.toList st) (hS:Static P ops) (I:Inv P ops st ι0 w0 a0 listed a w p ι) {k:Nat} {o:Oper} (ho:ops[k]? = some o) (hk:¬ gL listed k) (fH:∀ e∈bI o,gL listed e)
 {v:Value} {tv:T} (hst:(st (k+1)).1=cY (st k).1 o.dst tv) (hT:aK ι tv v) (hw:pj P o=false\/cO ops.toList (st k).1 o=some false) :
 ∃ p',Inv P ops st ι0 w0 a0 (listed.setIfInBounds k true) (a.put o.dst v) w p' ι:=by
 have hkn:=N3 ho
 cases hW:pj P o with
 | false =>
   refine ⟨p,I.next h hS ho hk fH hst hT (bV.le_refl _) I.W4 ?_ I.rel (fun k' h1 _ h2=>I.ghost k' h1 h2) (fun q b h1 _ h2=>I.pend q b h1 h2) I.TQ⟩
   intro j oj hj vE
   rw [← I.below j oj hj vE]
   constructor
   · rintro (rfl | h)
     · rw [ho] at hj;cases hj;rw [hW] at vE;cases vE
     · exact h
   · exact .inr
 | true =>
   obtain ⟨hpk,hpl⟩:=I.place hS ho hW hk fH
   have hX:X P ops.toList st p=X P ops.toList st (k+1):=by
    rw [PK hs h I (Nat.le_of_lt hkn) hpk (fun j oj hj vE hlt=>(hpl j oj hj vE).2 hlt)]
    exact GA hs h (CU ho) hw
   refine ⟨k+1,I.next h hS ho hk fH hst hT (bV.le_refl _) hkn ?_ (hX ▸ I.rel) (fun k' h1 _ h2=>I.ghost k' h1 h2) (fun q b h1 _ h2=>hX ▸ I.pend q b h1 h2) (hX ▸ I.TQ)⟩
   intro j oj hj vE
   rw [hpl j oj hj vE]
   omega
theorem Inv.make (hs:aM P aa) (h:pq P aa ops.toList st) (hS:Static P ops) (I:Inv P ops st ι0 w0 a0 listed a w p ι) {k:Nat} {o:Oper} (ho:ops[k]? = some o) (hk:¬ gL listed k) (fH:∀ e∈bI o,gL listed e)
 {b:dV} {f:Nat->T} {L:Loc} {u:World} {v:Value} (hA:yR P ops.toList st k b) (Pb:kindOf P o.op = .A) (hst:(st (k+1)).1=cY (st k).1 o.dst (f (st k).2.size)) (hN:ju ι w u L b)
 (hT:aK (rO ι (st k).2.size L) (f (st k).2.size) v):Inv P ops st ι0 w0 a0 (listed.setIfInBounds k true) (a.put o.dst v) u p (rO ι (st k).2.size L):=by
 have hkn:=N3 ho
 have hlen:ops.toList.length=ops.size:=Array.length_toList
 have vL:=iR h hA
 have hfree:ι (st k).2.size=none:=I.ghost k hkn hk _ (Nat.le_refl _) (by rw [vL];simp)
 have hX:rP (X P ops.toList st p) (st k).2.size b=X P ops.toList st p:=by
  funext i
  by_cases e:i=(st k).2.size
  · subst e;rw [qu,I.pend k b hA hk]
  · rw [iy _ _ e]
 have ET:Rel (rO ι (st k).2.size L) (X P ops.toList st p) u:=by
  have:=jm I.rel hfree hN
  rwa [hX] at this
 have WG:(st 0).2.size<=(st k).2.size:=h.size_le hs (Nat.zero_le _) (by omega)
 have hzn:(st (k+1)).2.size<=(st ops.size).2.size:=h.size_le hs (by omega) (by omega)
 rw [vL] at hzn
 simp only [St.size_push] at hzn
 refine I.next h hS ho hk fH hst hT (xX L hfree) I.W4 ?_ ET ?_ (fun q b h1 _ h2=>I.pend q b h1 h2) ?_
 · intro j oj hj vE
   rw [← I.below j oj hj vE]
   constructor
   · rintro (rfl | h)
     · rw [ho] at hj;cases hj;simp [pj,Pb] at vE
     · exact h
   · exact .inr
 · intro k' hk' hne hL i h1 h2
   rw [eM]
   · exact I.ghost k' hk' hL i h1 h2
   · intro e
     subst e
     rcases Nat.lt_or_ge k' k with hlt | hge
     · have:=h.size_le hs (show k'+1<=k from hlt) (by omega)
       omega
     · have:=h.size_le hs (show k+1<=k' by omega) (by omega)
       rw [vL] at this
       simp at this
       omega
 · have F:=I.TQ
   refine ⟨?_,F.own,F.hold,F.ghost,?_,hN.os.trans F.os,hN.output.trans F.output,by rw [hN.size];have:=F.hsize;omega,?_⟩
   · intro i hi
     rw [eM _ _ (by omega)]
     exact F.agree i hi
   · intro i M h1 h2 hM hh
     by_cases e:i=(st k).2.size
     · subst e
       rw [bB] at hM;cases hM
       exact .inl (by rw [hN.GQ];exact F.hsize)
     · rw [eM _ _ e] at hM
       exact F.fresh i M h1 h2 hM hh
   · intro b' hb' hn
     have:=F.hsize
     rw [hN.keep b' (by omega)]
     exact F.keep b' hb' hn
theorem Inv.write (hs:aM P aa) (h:pq P aa ops.toList st) (hS:Static P ops) (I:Inv P ops st ι0 w0 a0 listed a w p ι) {k:Nat} {o:Oper} (ho:ops[k]? = some o) (hk:¬ gL listed k) (fH:∀ e∈bI o,gL listed e)
 (hW:pj P o=true):Rel ι (st k).2.get w/\gZ ι (st k).2.size (st (k+1)).2.size ∧
  ∀ (κ:bV) (u:World) (v:Value) (tv:T),(st (k+1)).1=cY (st k).1 o.dst tv->Ext ι (st k).2 w κ (st (k+1)).2 u->Rel κ (st (k+1)).2.get u->aK κ tv v →
    Inv P ops st ι0 w0 a0 (listed.setIfInBounds k true) (a.put o.dst v) u (k+1) κ:=by
 have hkn:=N3 ho
 have hlen:ops.toList.length=ops.size:=Array.length_toList
 obtain ⟨hpk,hpl⟩:=I.place hS ho hW hk fH
 have hX:X P ops.toList st p=X P ops.toList st k:=PK hs h I (Nat.le_of_lt hkn) hpk (fun j oj hj vE hlt=>(hpl j oj hj vE).2 hlt)
 have lP:∀ i,i<(st k).2.size->X P ops.toList st p i=(st k).2.get i:=fun i hi=>by rw [hX];exact vp hs h (by omega) hi
 have wfk:=h.wf hs k (by omega)
 have Z5:=h.wf hs (k+1) (by omega)
 have hsub:∀ i b,(st k).2.get i=some b->X P ops.toList st p i=some b:=fun i b hb=>by rw [lP i (wfk.lt hb)];exact hb
 have Rh:Rel ι (st k).2.get w:=by
  refine ⟨fun i L b hL hb=>I.rel.blk i L b hL (hsub i b hb),fun i j L M hL hM hl hh hne=>I.rel.sep i j L M hL hM ?_ ?_ hne,fun i n vs hg=>I.rel.dP i n vs (hsub i _ hg)⟩
  · cases hb:(st k).2.get i with
    | none=>rw [hb] at hl;exact hl.elim
    | some b=>rw [hsub i b hb];rw [hb] at hl;exact hl
  · cases hb:(st k).2.get j with
    | none=>rw [hb] at hh;exact hh.elim
    | some b=>rw [hsub j b hb];rw [hb] at hh;exact hh
 have hF:gZ ι (st k).2.size (st (k+1)).2.size:=fun i h1 h2=>I.ghost k hkn hk i h1 h2
 refine ⟨Rh,hF,?_⟩
 intro κ u v tv hst hE Nk hT
 have hle:=hE.le hF
 have EV:(st (k+1)).2.size<=(st ops.size).2.size:=h.size_le hs (by omega) (by omega)
 have WG:(st 0).2.size<=(st k).2.size:=h.size_le hs (Nat.zero_le _) (by omega)
 have m7:∀ i,i<(st (k+1)).2.size->X P ops.toList st (k+1) i=(st (k+1)).2.get i:=fun i hi=>vp hs h (by omega) hi
 have Ug:∀ i b,(st (k+1)).2.size<=i->X P ops.toList st (k+1) i=some b->∃ q,k+1<=q/\yR P ops.toList st q b/\(st q).2.size=i:=by
  intro i b hi hb
  by_cases hex:∃ q b',yR P ops.toList st q b'/\k+1<=q/\(st q).2.size=i
  · obtain ⟨q,b',hA,hq,rfl⟩:=hex
    rw [qA hs h hA hq] at hb;cases hb
    exact ⟨q,hq,hA,rfl⟩
  · rw [lD (by omega) (fun q b' hA hq e=>hex ⟨q,b',hA,hq,e⟩),Z5 i hi] at hb
    cases hb
 have nA:∀ i,(st (k+1)).2.size<=i->X P ops.toList st (k+1) i=X P ops.toList st p i\/X P ops.toList st (k+1) i=none:=by
  intro i hi
  cases hb:X P ops.toList st (k+1) i with
  | none=>exact .inr rfl
  | some b =>
    obtain ⟨q,hq,hA,rfl⟩:=Ug i b hi hb
    rw [qA hs h hA (show p<=q by omega)]
    exact .inl rfl
 have hkeep:∀ i L,(st (k+1)).2.size<=i->ι i=some L->held (X P ops.toList st (k+1) i)->u.heap[L.b]? = w.heap[L.b]? := by
  intro i L hi hL hh
  have XE:X P ops.toList st (k+1) i=X P ops.toList st p i:=by
   rcases nA i hi with e | e
   · exact e
   · rw [e] at hh;exact hh.elim
  rw [XE] at hh
  have hlt:L.b<w.heap.size:=by
   cases hb:X P ops.toList st p i with
   | none=>rw [hb] at hh;exact hh.elim
   | some b=>rw [hb] at hh;exact (I.rel.blk i L b hL hb).lt hh
  refine hE.keep L.b hlt fun j M hj hM hl => ?_
  refine I.rel.sep j i M L hM hL (by rw [lP j hj];exact hl) hh ?_
  have:=hE.size
  omega
 have pT:∀ i,(st (k+1)).2.size<=i->κ i=ι i:=fun i hi=>hE.agree i (.inr hi)
 have Im:∀ i j L M,i<(st (k+1)).2.size->(st (k+1)).2.size<=j->κ i=some L->ι j=some M->held ((st (k+1)).2.get i)->held (X P ops.toList st (k+1) j) →
  (live ((st (k+1)).2.get i)\/live (X P ops.toList st (k+1) j))->L.b≠M.b:=by
  intro i j L M hi hj hL hM hhi Dt m8
  have hXj:X P ops.toList st (k+1) j=X P ops.toList st p j:=by
   rcases nA j hj with e | e
   · exact e
   · rw [e] at Dt;exact Dt.elim
  rw [hXj] at Dt m8
  have aaj:M.b<w.heap.size:=by
   cases hb:X P ops.toList st p j with
   | none=>rw [hb] at Dt;exact Dt.elim
   | some b=>rw [hb] at Dt;exact (I.rel.blk j M b hM hb).lt Dt
  have:=hE.size
  rcases Nat.lt_or_ge i (st k).2.size with hik | hik
  · rw [hE.agree i (.inl hik)] at hL
    rcases m8 with m8 | m8
    · exact I.rel.sep i j L M hL hM (by rw [lP i hik];exact hE.own i hik m8) Dt (by omega)
    · exact Ne.symm (I.rel.sep j i M L hM hL m8 (by rw [lP i hik];exact hE.hold i hik hhi) (by omega))
  · rcases hE.fresh i L hik hi hL hhi with hf | ⟨j',M',hj',hM',e,hl⟩
    · omega
    · rw [← e]
      exact I.rel.sep j' j M' M hM' hM (by rw [lP j' hj'];exact hl) Dt (by omega)
 have ET:Rel κ (X P ops.toList st (k+1)) u:=by
  constructor
  · intro i L b hL hb
    rcases Nat.lt_or_ge i (st (k+1)).2.size with hi | hi
    · rw [m7 i hi] at hb;exact Nk.blk i L b hL hb
    · rw [pT i hi] at hL
      have XE:X P ops.toList st p i=some b:=by
       rcases nA i hi with e | e
       · rw [← e];exact hb
       · rw [e] at hb;cases hb
      have hr:=I.rel.blk i L b hL XE
      cases b with
      | dead=>trivial
      | cells own vs=>exact (hr.mono hle).congr (hkeep i L hi hL (by rw [hb];trivial))
      | map es=>exact (hr.mono hle).congr (hkeep i L hi hL (by rw [hb];trivial))
      | dP g vs=>exact (hr.mono hle).congr (hkeep i L hi hL (by rw [hb];trivial))
  · intro i j L M hL hM hl hh hne
    rcases Nat.lt_or_ge i (st (k+1)).2.size with hi | hi
    · rw [m7 i hi] at hl
      rcases Nat.lt_or_ge j (st (k+1)).2.size with hj | hj
      · rw [m7 j hj] at hh
        exact Nk.sep i j L M hL hM hl hh hne
      · rw [pT j hj] at hM
        exact Im i j L M hi hj hL hM hl.held hh (.inl hl)
    · rw [pT i hi] at hL
      rcases Nat.lt_or_ge j (st (k+1)).2.size with hj | hj
      · rw [m7 j hj] at hh
        exact Ne.symm (Im j i M L hj hi hM hL hh hl.held (.inr hl))
      · rw [pT j hj] at hM
        have e1:X P ops.toList st (k+1) i=X P ops.toList st p i:=by
         rcases nA i hi with e | e
         · exact e
         · rw [e] at hl;exact hl.elim
        have e2:X P ops.toList st (k+1) j=X P ops.toList st p j:=by
         rcases nA j hj with e | e
         · exact e
         · rw [e] at hh;exact hh.elim
        rw [e1] at hl;rw [e2] at hh
        exact I.rel.sep i j L M hL hM hl hh hne
  · intro i n vs hg
    rcases Nat.lt_or_ge i (st (k+1)).2.size with hi | hi
    · rw [m7 i hi] at hg
      exact Nk.dP i n vs hg
    · rw [pT i hi]
      rcases nA i hi with e | e
      · rw [e] at hg
        exact I.rel.dP i n vs hg
      · rw [e] at hg;cases hg
 refine I.next h hS ho hk fH hst hT hle hkn ?_ ET ?_ ?_ ?_
 · intro j oj hj vE
   rw [hpl j oj hj vE]
   omega
 · intro k' hk' hne hL i h1 h2
   rcases Nat.lt_or_ge k' k with hlt | hge
   · have:=h.size_le hs (show k'+1<=k from hlt) (by omega)
     rw [hE.agree i (.inl (by omega))]
     exact I.ghost k' hk' hL i h1 h2
   · have:=h.size_le hs (show k+1<=k' by omega) (by omega)
     rw [hE.agree i (.inr (by omega))]
     exact I.ghost k' hk' hL i h1 h2
 · intro q b hA hne hL
   have hqn:q<ops.size:=by obtain ⟨o',f,si,_⟩:=hA;rw [← hlen];exact (List.getElem?_eq_some_iff.1 si).1
   rcases Nat.lt_or_ge q k with hlt | hge
   · have hpq:=iR h hA
     have hsz:=h.size_le hs (show q+1<=k from hlt) (by omega)
     rw [hpq] at hsz
     simp only [St.size_push] at hsz
     have h1:=I.pend q b hA hL
     rw [lP _ (by omega)] at h1
     have hn:ι (st q).2.size=none:=I.ghost q hqn hL _ (Nat.le_refl _) (by rw [hpq];simp)
     rw [m7 _ (by have:=hE.size;omega),hE.ghost _ (by omega) hn]
     exact h1
   · exact qA hs h hA (by omega)
 · have F:=I.TQ
   refine ⟨?_,?_,?_,?_,?_,hE.os.trans F.os,hE.output.trans F.output,Nat.le_trans F.hsize hE.hsize,?_⟩
   · intro i hi
     have:=hE.size
     rw [hE.agree i (by omega)]
     exact F.agree i hi
   · intro i hi hl
     have:=hE.size
     rw [m7 i (by omega)] at hl
     have:=hE.own i (by omega) hl
     rw [← lP i (by omega)] at this
     exact F.own i hi this
   · intro i hi hl
     have:=hE.size
     rw [m7 i (by omega)] at hl
     have:=hE.hold i (by omega) hl
     rw [← lP i (by omega)] at this
     exact F.hold i hi this
   · intro i hi hn
     have:=hE.size
     rw [m7 i (by omega),hE.ghost i (by omega) (by rw [F.agree i (.inl hi)];exact hn),← lP i (by omega)]
     exact F.ghost i hi hn
   · intro i L h1 h2 hL hh
     have hsz:=hE.size
     have back:∀ j M,j<(st k).2.size->ι j=some M->live ((st k).2.get j)->w0.heap.size<=M.b\/∃ j' M',j'<(st 0).2.size/\ι0 j'=some M'/\M'.b=M.b/\live ((st 0).2.get j'):=by
      intro j M hj hM hl
      rw [← lP j hj] at hl
      rcases Nat.lt_or_ge j (st 0).2.size with S2 | S2
      · exact .inr ⟨j,M,S2,by rw [← F.agree j (.inl S2)];exact hM,rfl,F.own j S2 hl⟩
      · exact F.fresh j M S2 (by omega) hM hl.held
     rcases Nat.lt_or_ge i (st (k+1)).2.size with hi | hi
     · rw [m7 i hi] at hh
       rcases Nat.lt_or_ge i (st k).2.size with hik | hik
       · rw [hE.agree i (.inl hik)] at hL
         have:=hE.hold i hik hh
         rw [← lP i hik] at this
         exact F.fresh i L h1 h2 hL this
       · rcases hE.fresh i L hik hi hL hh with hf | ⟨j,M,hj,hM,e,hl⟩
         · exact .inl (Nat.le_trans F.hsize hf)
         · have:=back j M hj hM hl
           rwa [e] at this
     · rw [pT i hi] at hL
       rcases nA i hi with e | e
       · rw [e] at hh;exact F.fresh i L h1 h2 hL hh
       · rw [e] at hh;exact hh.elim
   · intro b hb hn
     have SZ:=F.hsize
     rw [hE.keep b (by omega)]
     · exact F.keep b hb hn
     · intro i L hi hL hl e
       rw [← lP i hi] at hl
       rcases Nat.lt_or_ge i (st 0).2.size with Bh | Bh
       · exact hn i L Bh (by rw [← F.agree i (.inl Bh)];exact hL) (F.own i Bh hl) e
       · have:=hE.size
         rcases F.fresh i L Bh (by omega) hL hl.held with hf | ⟨j,M,hj,hM,e',hlj⟩
         · omega
         · exact hn j M hj hM hlj (e'.trans e)
end
section
variable {P:Program} {aa:ak} {ops:Array Oper} {st:Nat->List T×St}
variable {ι0:bV} {w0:World} {a0:Act} {listed:Array Bool} {a:Act} {w:World} {p:Nat} {ι:bV}
theorem Cj (hs:aM P aa) (h:pq P aa ops.toList st) (hS:Static P ops) (hw:o9 P ops.toList (dh ops.toList) (dx st (ops.toList.length+1))=true)
 (I:Inv P ops st ι0 w0 a0 listed a w p ι) {k:Nat} {o:Oper} (ho:ops[k]? = some o) (hk:¬ gL listed k) (fH:∀ e∈bI o,gL listed e) (Wu:kindOf P o.op = .L)
 (IL:cO ops.toList (st k).1 o=some true) {t:T} (ht:rM P o.op (pd (st k).1) (st k).2.get=some t):rM P o.op (pd (st k).1) (X P ops.toList st p)=some t:=by
 have hkn:=N3 ho
 have hlen:ops.toList.length=ops.size:=Array.length_toList
 have B5:=nt hS.low (gL listed) I.closed
 have vR:∀ j,j∈uI P ops.toList.zipIdx↔∃ oj,ops[j]? = some oj/\pj P oj=true:=by
  have gen:∀ (l:List (Oper×Nat)) (j:Nat),j∈uI P l↔∃ oj,(oj,j)∈l/\pj P oj=true:=by
   intro l
   induction l with
   | nil=>intro j;simp [uI]
   | cons x l ih =>
     intro j
     obtain ⟨o',k'⟩:=x
     simp only [uI]
     cases hb:pj P o' with
     | true =>
       rw [List.mem_cons,ih]
       constructor
       · rintro (rfl | ⟨oj,h1,h2⟩)
         · exact ⟨o',by simp,hb⟩
         · exact ⟨oj,by simp [h1],h2⟩
       · rintro ⟨oj,h1,h2⟩
         simp only [List.mem_cons,Prod.mk.injEq] at h1
         rcases h1 with ⟨_,rfl⟩ | h1
         · exact .inl rfl
         · exact .inr ⟨oj,h1,h2⟩
     | false =>
       rw [ih]
       constructor
       · rintro ⟨oj,h1,h2⟩;exact ⟨oj,by simp [h1],h2⟩
       · rintro ⟨oj,h1,h2⟩
         simp only [List.mem_cons,Prod.mk.injEq] at h1
         rcases h1 with ⟨rfl,_⟩ | h1
         · rw [hb] at h2;cases h2
         · exact ⟨oj,h1,h2⟩
  intro j
  rw [gen]
  constructor
  · rintro ⟨oj,h1,h2⟩;exact ⟨oj,KU (eA.1 h1),h2⟩
  · rintro ⟨oj,h1,h2⟩;exact ⟨oj,eA.2 (CU h1),h2⟩
 let ws:=uI P ops.toList.zipIdx
 obtain ⟨c1,c2,c3⟩:=sZ ws p
 have same:∀ q,q<=ops.size->X P ops.toList st (canon ws q)=X P ops.toList st q:=by
  intro q hq
  obtain ⟨d1,d2,d3⟩:=sZ ws q
  have:=Gz hs h (q-canon ws q) (canon ws q) (by omega) (fun j oj h1 h2 hj=>by
   cases hb:pj P oj with
   | false=>rfl
   | true =>
     have:=d2 j ((vR j).2 ⟨oj,KU hj,hb⟩) (by omega)
     omega)
  rwa [show canon ws q+(q-canon ws q)=q from by omega] at this
 rw [← same p I.W4]
 have gG:canon ws p∈0::ws.map (· + 1):=by
  rcases c3 with h0 | ⟨j,hj,e⟩
  · rw [h0];simp
  · rw [e];simp [hj]
 have hok:gl ws (dh ops.toList) k (canon ws p)=true:=by
  simp only [gl,List.all_eq_true,Bool.and_eq_true,Bool.or_eq_true,Bool.not_eq_true']
  intro j hj
  obtain ⟨oj,Wx,vE⟩:=(vR j).1 hj
  constructor
  · cases hb:((dh ops.toList).getD k 0).testBit j with
    | false=>exact .inl rfl
    | true =>
      right
      have hL:=B5 k o j (CU ho) fH hb
      exact xq.2 (c2 j hj ((I.below j oj Wx vE).1 hL))
  · cases hb:((dh ops.toList).getD j 0).testBit k with
    | false=>exact .inl rfl
    | true =>
      right
      have S7:¬ gL listed j:=fun hL=>hk (B5 j oj k (CU Wx) (I.closed j oj (CU Wx) hL) hb)
      have:¬ j<p:=fun hlt=>S7 ((I.below j oj Wx vE).2 hlt)
      exact Nat.ble_eq_true_of_le (by omega)
 have Po:(Nat.beq (canon ws p) (canon ws k)||(match cO ops.toList ((dx st (ops.toList.length+1)).at k).1 o with
  | some true=>decide (rM P o.op (pd ((dx st (ops.toList.length+1)).at k).1) (SJ P ops.toList (dx st (ops.toList.length+1)) (canon ws p))=rM P o.op (pd ((dx st (ops.toList.length+1)).at k).1) ((dx st (ops.toList.length+1)).at k).2.get)
  | _=>true))=true:=by
  simp only [o9,List.all_eq_true] at hw
  have h1:=hw (o,k) (eA.2 (CU ho))
  simp only [Wu,List.all_eq_true] at h1
  have h2:=h1 (canon ws p) gG
  rw [Bool.or_eq_true] at h2
  rcases h2 with h2 | h2
  · have:gl ws (dh ops.toList) k (canon ws p)=false:=by simpa using h2
    rw [hok] at this;cases this
  · exact h2
 rw [Bool.or_eq_true] at Po
 rcases Po with he | he
 · rw [zj.1 he,same k (by omega)]
   refine JD (g:=(st k).2.get) ?_ ht
   intro i b hb
   rw [vp hs h (by omega) ((h.wf hs k (by omega)).lt hb)]
   exact hb
 · rw [pW st (by omega),IL] at he
   simp only [decide_eq_true_eq] at he
   rw [ht] at he
   exact he
def left (n:Nat) (listed:Array Bool):Nat:=(List.range n).countP fun i => !listed.getD i false
theorem Jj {n k:Nat} (hk:k<n) (hl:listed.size=n) (h:¬ gL listed k):left n (listed.setIfInBounds k true)+1=left n listed:=by
 unfold left
 have gen:∀ (l:List Nat),l.Nodup->k∈l->l.countP (fun i => !(listed.setIfInBounds k true).getD i false)+1=l.countP fun i => !listed.getD i false:=by
  intro l
  induction l with
  | nil=>intro _ h;cases h
  | cons x l ih =>
    intro hnd hm
    rw [List.nodup_cons] at hnd
    by_cases e:x=k
    · subst e
      have h1:(listed.setIfInBounds x true).getD x false=true:=by simp [hl,hk]
      have h2:listed.getD x false=false:=by
       cases hb:listed.getD x false with
       | false=>rfl
       | true=>exact (h hb).elim
      rw [List.countP_cons_of_neg (by simp only [h1];simp),List.countP_cons_of_pos (by simp only [h2];simp)]
      congr 1
      apply List.countP_congr
      intro y hy
      have:y≠x:=fun e=>hnd.1 (e ▸ hy)
      rw [getD_set_ne false (Ne.symm this)]
    · have hm':k∈l:=by
       cases hm with
       | head=>exact (e rfl).elim
       | tail _ h=>exact h
      have:=ih hnd.2 hm'
      have hx:(listed.setIfInBounds k true).getD x false=listed.getD x false:=getD_set_ne false (Ne.symm e)
      cases hb:listed.getD x false with
      | true =>
        rw [List.countP_cons_of_neg (by simp only [hx,hb];simp),List.countP_cons_of_neg (by simp only [hb];simp)]
        exact this
      | false =>
        rw [List.countP_cons_of_pos (by simp only [hx,hb];simp),List.countP_cons_of_pos (by simp only [hb];simp)]
        omega
 exact gen _ List.nodup_range (List.mem_range.2 hk)
theorem BF {n:Nat} (h:left n listed=0):∀ k,k<n->gL listed k:=by
 intro k hk
 unfold left at h
 rw [List.countP_eq_zero] at h
 have:=h k (List.mem_range.2 hk)
 simpa [gL] using this
theorem Fx (hS:Static P ops) (hl:listed.size=ops.size) (h:Region.ready .any ops listed=[]):∀ k,k<ops.size->gL listed k:=by
 intro k
 induction k using Nat.strongRecOn with
 | _ k ih =>
   intro hk
   cases hb:listed.getD k false with
   | true=>exact hb
   | false =>
     have ho:ops[k]? = some ops[k]:=Array.getElem?_eq_getElem hk
     have:k∈Region.ready .any ops listed:=by
      rw [mem_ready]
      refine ⟨?_,ops[k],ho,?_⟩
      · simp only [Array.getD_eq_getD_getElem?] at hb ⊢
        cases hc:listed[k]? with
        | none=>rw [Array.getElem?_eq_none_iff] at hc;omega
        | some b=>rw [hc] at hb;simpa using hb
      · intro e he T6
        have:=hS.low k _ (CU ho) e.on (qT.2 ⟨e,he,T6,rfl⟩)
        exact ih e.on this (by omega)
     rw [h] at this;cases this
theorem G1 (hs:aM P aa) (h:pq P aa ops.toList st) (hS:Static P ops) (hw:o9 P ops.toList (dh ops.toList) (dx st (ops.toList.length+1))=true) {Q:Exit->Act->World->Prop}
 (hQ:∀ listed a w p ι,Inv P ops st ι0 w0 a0 listed a w p ι->(∀ k,k<ops.size->gL listed k)->Q .normal a w) :
 ∀ (fuel:Nat) (listed:Array Bool) (a:Act) (w:World) (p:Nat) (ι:bV),left ops.size listed<=fuel->Inv P ops st ι0 w0 a0 listed a w p ι->wpAny P .any ops Q fuel listed a w:=by
 have hlen:ops.toList.length=ops.size:=Array.length_toList
 intro fuel
 induction fuel with
 | zero =>
   intro listed a w p ι hf I
   have hall:=BF (listed:=listed) (n:=ops.size) (by omega)
   refine ⟨?_,hQ listed a w p ι I hall⟩
   cases hr:Region.ready .any ops listed with
   | nil=>rfl
   | cons k l =>
     have:k∈Region.ready .any ops listed:=by rw [hr];simp
     rw [mem_ready] at this
     obtain ⟨hk,o,ho,_⟩:=this
     have hL:=hall k (N3 ho)
     unfold gL at hL
     simp only [Array.getD_eq_getD_getElem?] at hk hL
     cases hc:listed[k]? with
     | none=>rw [hc] at hk;cases hk
     | some b=>rw [hc] at hk hL;simp at hk hL;rw [hk] at hL;cases hL
 | succ fuel ih =>
   intro listed a w p ι hf I
   refine ⟨fun hr=>hQ listed a w p ι I (Fx hS I.WV hr),?_⟩
   intro k hk
   rw [mem_ready] at hk
   obtain ⟨eZ,o,ho,hed⟩:=hk
   have hkn:=N3 ho
   have hnk:¬ gL listed k:=by
    intro hL
    unfold gL at hL
    simp only [Array.getD_eq_getD_getElem?] at eZ hL
    cases hc:listed[k]? with
    | none=>rw [hc] at eZ;cases eZ
    | some b=>rw [hc] at eZ hL;simp at eZ hL;rw [eZ] at hL;cases hL
   have fH:∀ e∈bI o,gL listed e:=by
    intro e he
    obtain ⟨d,hd,hb,rfl⟩:=qT.1 he
    exact hed d hd hb
   have aac:=Jj hkn I.WV hnk
   have oA:∀ (a':Act) (w':World) (p':Nat) (KY:bV),Inv P ops st ι0 w0 a0 (listed.setIfInBounds k true) a' w' p' KY->wpAny P .any ops Q fuel (listed.setIfInBounds k true) a' w' :=
    fun a' w' p' KY I'=>ih _ a' w' p' KY (by omega) I'
   have hstep:=h.step k o (CU ho)
   have cW:=I.operand h hS ho hnk fH
   unfold wpOp
   rw [ho]
   simp only
   cases Tc:cO ops.toList (st k).1 o with
   | none=>unfold step at hstep;rw [Tc] at hstep;cases hstep
   | some b =>
     have IL:=I.wanted h hS ho hnk fH Tc
     rw [IL]
     unfold step at hstep
     rw [Tc] at hstep
     cases b with
     | false =>
       simp only [Bool.false_eq_true,if_false]
       have e:=Option.some.inj hstep
       obtain ⟨p',I'⟩:=I.quiet hs h hS ho hnk fH (v:=undef) (tv:=tt) (by rw [← e]) gK (.inr Tc)
       exact oA _ _ _ _ I'
     | true =>
       simp only [if_true]
       left
       simp only at hstep
       split at hstep
       · rename_i hkP
         split at hstep
         · rename_i t ht
           have e:=Option.some.inj hstep
           refine JF cW ht fun v hv => ?_
           obtain ⟨p',I'⟩:=I.quiet hs h hS ho hnk fH (v:=v) (tv:=t) (by rw [← e]) hv (.inl (by simp [pj,hkP]))
           exact oA _ _ _ _ I'
         · cases hstep
       · rename_i Wu
         split at hstep
         · rename_i t ht
           have e:=Option.some.inj hstep
           have Rs:=Cj hs h hS hw I ho hnk fH Wu Tc ht
           refine JE I.rel cW Rs fun v hv => ?_
           obtain ⟨p',I'⟩:=I.quiet hs h hS ho hnk fH (v:=v) (tv:=t) (by rw [← e]) hv (.inl (by simp [pj,Wu]))
           exact oA _ _ _ _ I'
         · cases hstep
       · rename_i Pb
         split at hstep
         · rename_i b f hb
           have e:=Option.some.inj hstep
           have hA:yR P ops.toList st k b:=⟨o,f,CU ho,Pb,Tc,hb⟩
           refine JC (w:=w) cW hb fun L u v hN hT => ?_
           exact oA _ _ _ _ (I.make hs h hS ho hnk fH hA Pb (by rw [← e]) hN (hT _))
         · cases hstep
       · rename_i hkW
         split at hstep
         · rename_i t τ hwr
           have e:=Option.some.inj hstep
           obtain ⟨Rh,hF,Pf⟩:=I.write hs h hS ho hnk fH (by simp [pj,hkW])
           have e2:(st (k+1)).2=τ:=by rw [← e]
           rw [e2] at hF Pf
           refine DN hs Rh (h.wf hs k (by omega)) hF cW hwr fun κ u v hE hR hT => ?_
           exact oA _ _ _ _ (Pf κ u v t (by rw [← e]) hE hR hT)
         · cases hstep
theorem Ax (hs:aM P aa) {id:Nat} {Q:Exit->Act->World->Prop} {env env':List T} {σ τ:St}
 (hrun:sB P aa ops.toList (env,σ)=some (env',τ)) (hE:gF ι env a.tmps) (hR:Rel ι σ.get w) (wf:σ.wf) (hf:gZ ι σ.size τ.size)
 (hK:∀ κ u a',a'.defers=a.defers->gF κ env' a'.tmps->Ext ι σ w κ τ u->Rel κ τ.get u->Q .normal a' u):(Code.region id ops true).wp P Q a w:=by
 have hlen:ops.toList.length=ops.size:=Array.length_toList
 unfold sB at hrun
 split at hrun
 · rename_i hc
   rw [Bool.and_eq_true] at hc
   have hS:=FK hc.2
   obtain ⟨st,h0,hst,hn,hw⟩:=OH ops.toList 0 (fun _=>(env,σ)) (env,σ) (env',τ) (by simp) (Nat.zero_le _) rfl (fun j o hj _=>by omega) hrun
   have RI:st 0=(env,σ):=h0 0 (Nat.le_refl _)
   have h:pq P aa ops.toList st:=⟨hst,by rw [RI];exact wf⟩
   rw [hlen] at hn
   have e1:(st 0).1=env:=by rw [RI]
   have e2:(st 0).2=σ:=by rw [RI]
   have e3:(st ops.size).1=env':=by rw [hn]
   have e4:(st ops.size).2=τ:=by rw [hn]
   have hno:∀ j,¬ gL (Array.replicate ops.size false) j:=by
    intro j hL
    unfold gL at hL
    simp only [Array.getD_eq_getD_getElem?] at hL
    cases hc:(Array.replicate ops.size false)[j]? with
    | none=>rw [hc] at hL;cases hL
    | some b =>
      rw [hc] at hL
      rw [Array.getElem?_replicate] at hc
      split at hc
      · cases hc;cases hL
      · cases hc
   refine wp_region_any hc.1 ?_
   have j0:Rel ι σ.get { w with drawn:=w.drawn+1 }:=hR.heap rfl
   refine G1 hs h hS hw (ι0:=ι) (w0:=w) (a0:=a) ?_ ops.size _ a _ 0 ι ?_ ?_
   · intro listed a' u p κ I hall
     have hXn:X P ops.toList st p=X P ops.toList st ops.size:=by
      refine PK hs h I (Nat.le_refl _) I.W4 fun j oj hj _ hlt=>hall j hlt
     have lP:∀ i b,τ.get i=some b->X P ops.toList st p i=some b:=by
      intro i b hb
      rw [hXn,vp hs h (by omega) (by rw [e4];exact (e4 ▸ h.wf hs ops.size (by omega)).lt hb),e4]
      exact hb
     have Dv:∀ i,i<τ.size->X P ops.toList st p i=τ.get i:=by
      intro i hi
      rw [hXn,vp hs h (by omega) (by rw [e4];exact hi),e4]
     have hsz:σ.size<=τ.size:=by
      have:=h.size_le hs (Nat.zero_le ops.size) (by omega)
      rwa [e2,e4] at this
     have F:=I.TQ
     rw [e2,e4] at F
     refine hK κ u a' I.defers ?_ ?_ ?_
     · refine ⟨by rw [← e3,h.len ops.size (by omega)];exact I.len,fun t => ?_⟩
       rw [← e3]
       by_cases hex:∃ (j:Nat) (oj:Oper),ops[j]? = some oj/\oj.dst=some t
       · obtain ⟨j,oj,hj,hd⟩:=hex
         have hjn:=N3 hj
         have es:=h.jO t (ops.size-(j+1)) (j+1) (by omega) (fun j' o' h1 h2 hj' ky=>by
          have:j'=j:=by
           by_cases e:j'=j
           · exact e
           · exact (hS.uniq j oj j' o' t hj (KU hj') e ky hd).elim
          omega)
         rw [show j+1+(ops.size-(j+1))=ops.size from by omega] at es
         rw [es]
         exact I.put t j oj hj hd (hall j hjn)
       · have es:=h.jO t ops.size 0 (by omega) (fun j' o' h1 h2 hj' ky=>hex ⟨j',o',KU hj',ky⟩)
         rw [Nat.zero_add] at es
         rw [es]
         exact I.old t fun j' o' hj' ky=>(hex ⟨j',o',hj',ky⟩).elim
     · refine ⟨hsz,F.agree,?_,?_,?_,?_,F.os,F.output,F.hsize,F.keep⟩
       · intro i hi hl
         rw [← Dv i (by omega)] at hl
         exact F.own i hi hl
       · intro i hi hl
         rw [← Dv i (by omega)] at hl
         exact F.hold i hi hl
       · intro i hi Yt
         rw [← Dv i (by omega)]
         exact F.ghost i hi Yt
       · intro i L h1 h2 hL hh
         rw [← Dv i h2] at hh
         exact F.fresh i L h1 h2 hL hh
     · refine ⟨fun i L b hL hb=>I.rel.blk i L b hL (lP i b hb),fun i j L M hL hM hl hh hne=>I.rel.sep i j L M hL hM ?_ ?_ hne,fun i n vs hg=>I.rel.dP i n vs (lP i _ hg)⟩
       · cases hb:τ.get i with
         | none=>rw [hb] at hl;exact hl.elim
         | some b=>rw [lP i b hb];rw [hb] at hl;exact hl
       · cases hb:τ.get j with
         | none=>rw [hb] at hh;exact hh.elim
         | some b=>rw [lP j b hb];rw [hb] at hh;exact hh
   · unfold left
     have:=List.countP_le_length (p:=fun i => !(Array.replicate ops.size false).getD i false) (l:=List.range ops.size)
     rwa [List.length_range] at this
   · have Rj:∀ i,i<σ.size->X P ops.toList st 0 i=σ.get i:=by
      intro i hi
      rw [vp hs h (Nat.zero_le _) (by rw [e2];exact hi),e2]
     have hsz:∀ k,k<=ops.size->σ.size<=(st k).2.size/\(st k).2.size<=τ.size:=by
      intro k hk
      have h1:=h.size_le hs (Nat.zero_le k) (by omega)
      have h2:=h.size_le hs hk (by omega)
      rw [e2] at h1;rw [e4] at h2
      exact ⟨h1,h2⟩
     have hfree:∀ i,σ.size<=i->X P ops.toList st 0 i≠none->ι i=none:=by
      intro i hi hne
      by_cases hex:∃ q b',yR P ops.toList st q b'/\0<=q/\(st q).2.size=i
      · obtain ⟨q,b',hA,_,rfl⟩:=hex
        have hq:q<ops.size:=by obtain ⟨o',f,si,_⟩:=hA;rw [← hlen];exact (List.getElem?_eq_some_iff.1 si).1
        have:=hsz (q+1) hq
        rw [iR h hA] at this
        simp only [St.size_push] at this
        exact hf _ hi (by omega)
      · exfalso
        apply hne
        rw [lD (Nat.zero_le _) (fun q b' hA hq e=>hex ⟨q,b',hA,hq,e⟩),e2,wf i hi]
     have UD:Rel ι (X P ops.toList st 0) { w with drawn:=w.drawn+1 }:=by
      constructor
      · intro i L b hL hb
        rcases Nat.lt_or_ge i σ.size with hi | hi
        · rw [Rj i hi] at hb;exact j0.blk i L b hL hb
        · rw [hfree i hi (by rw [hb];simp)] at hL;cases hL
      · intro i j L M hL hM hl hh hne
        rcases Nat.lt_or_ge i σ.size with hi | hi
        · rw [Rj i hi] at hl
          rcases Nat.lt_or_ge j σ.size with hj | hj
          · rw [Rj j hj] at hh;exact j0.sep i j L M hL hM hl hh hne
          · rw [hfree j hj (by intro e;rw [e] at hh;exact hh.elim)] at hM;cases hM
        · rw [hfree i hi (by intro e;rw [e] at hl;exact hl.elim)] at hL;cases hL
      · intro i n vs hg
        rcases Nat.lt_or_ge i σ.size with hi | hi
        · rw [Rj i hi] at hg
          exact j0.dP i n vs hg
        · exfalso
          by_cases hex:∃ q b',yR P ops.toList st q b'/\0<=q/\(st q).2.size=i
          · obtain ⟨q,b',hA,_,rfl⟩:=hex
            rw [qA hs h hA (Nat.zero_le _)] at hg
            cases hg
            obtain ⟨o',f,_,_,_,si⟩:=hA
            exact JB si
          · rw [lD (Nat.zero_le _) (fun q b' hA hq e=>hex ⟨q,b',hA,hq,e⟩),e2,wf i hi] at hg
            cases hg
     refine ⟨by simp,fun k o _ hL=>(hno k hL).elim,Nat.zero_le _,fun j o hj hW=>⟨fun hL=>(hno j hL).elim,fun hlt=>by omega⟩,by rw [e1];exact hE.len,rfl,
      fun t j o _ _ hL=>(hno j hL).elim,fun t _=>by rw [e1];exact hE.rel t,UD,?_,?_,?_⟩
     · intro k hk _ i h1 h2
       have:=(hsz k (by omega)).1
       have:=(hsz (k+1) hk).2
       exact hf i (by omega) (by omega)
     · intro q b hA _
       exact qA hs h hA (Nat.zero_le _)
     · rw [e2,e4]
       refine ⟨fun _ _=>rfl,fun i hi hl=>by rwa [Rj i hi] at hl,fun i hi hl=>by rwa [Rj i hi] at hl,fun i hi _=>Rj i hi,?_,rfl,rfl,Nat.le_refl _,fun _ _ _=>rfl⟩
       intro i L h1 h2 hL _
       rw [hf i h1 h2] at hL;cases hL
 · cases hrun
end
inductive Out where
 | normal (env:List T)
 | exit (id:Nat) (dv:List T)
 | ret (r:T)
def VH (s:Nat):Operand->Nat
 | .tmp t=>s ||| 2 ^ t
 | _=>s
def ZW (s:Nat) (l:List Operand):Nat:=l.foldl VH s
def clear (s t:Nat):Nat:=match s.testBit t with
 | true=>s ^^^ 2 ^ t
 | false=>s
def DH (ops:List Oper):List Oper->Nat->Nat
 | [],s=>s
 | o::r,s =>
   let s:=DH ops r s
   let s:=match o.dst with | some d=>clear s d | none=>s
   let s:=ZW s o.op.operands.toList
   (pS ops o).foldl (fun s t=>s ||| 2 ^ t) s
def fm (rets:Nat):Code->(Nat->Nat)->Nat->Nat
 | .region _ ops _,_,lo=>DH ops.toList ops.toList lo
 | .seq a b,ctx,lo=>fm rets a ctx (fm rets b ctx lo)
 | .cond c a b,ctx,lo=>VH (fm rets a ctx lo ||| fm rets b ctx lo) c
 | .block id c,ctx,lo=>fm rets c (fun i=>if i=id then lo else ctx i) lo
 | .loop c,ctx,_=>fm rets c ctx (fm rets c ctx (fm rets c ctx 0))
 | .scope c,ctx,lo=>fm rets c ctx lo
 | .exit id,ctx,_=>ctx id
 | .ret,_,_=>rets
 | _,_,lo=>lo
def ey (rs:List ResultVar):Nat:=rs.foldl (fun s r=>match r with | .tmp t=>s ||| 2 ^ t | .cell a _=>s ||| 2 ^ a) 0
def ends:Code->Bool
 | .seq a b=>ends a&&ends b
 | .cond _ a b=>ends a||ends b
 | .loop _=>false
 | .exit _=>false
 | .ret=>false
 | .scope c=>ends c
 | _=>true
def bH (n s:Nat):List Nat:=(List.range n).filter fun i=>s.testBit i
def proj (keep:List Nat) (env:List T):List T:=keep.map fun i=>env.getD i .any
def di (dv:List T):Nat->Nat->List Nat->Nat->List T
 | 0,_,_,_=>[]
 | n+1,i,[],j => .any::di dv n (i+1) [] j
 | n+1,i,k::ks,j=>match Nat.beq k i with
   | true=>dv.getD j .any::di dv n (i+1) ks (j+1)
   | false => .any::di dv n (i+1) (k::ks) j
def place (n:Nat) (keep:List Nat) (dv:List T):List T:=di dv n 0 keep 0
inductive JO where
 | normal (dv:List T)
 | exit (id:Nat) (dv:List T)
 | ret (r:T)
def loops (f:List T->St->Option (JO×St)):Nat->List T->St->Option (JO×St)
 | 0,_,_=>none
 | n+1,dv,σ=>match f dv σ with
   | none=>none
   | some (.normal Ky,τ)=>loops f n Ky τ
   | some (.exit i v,τ)=>some (.exit i v,τ)
   | some (.ret r,τ)=>some (.ret r,τ)
def OT (keep:List Nat) (o:Out) (τ:St):Option (JO×St) :=
 match o with
 | .normal e=>some (.normal (proj keep e),τ)
 | .exit i v=>some (.exit i v,τ)
 | .ret r=>some (.ret r,τ)
def mZ {R:Type} (n:Nat) (keep:List Nat) (K:Out->St->Option R) (x:Option (JO×St)):Option R :=
 match x with
 | none=>none
 | some (.normal v,τ)=>K (.normal (place n keep v)) τ
 | some (.exit i v,τ)=>K (.exit i v) τ
 | some (.ret r,τ)=>K (.ret r) τ
def P0 {R:Type} (c:T) (a b:Option R):Option R :=
 match c with
 | .v (.s (.bool true))=>a
 | .v (.s (.bool false))=>b
 | _=>none
def gT (g:Option Bool) (x:Option T):Option T:=match g with
 | none=>none
 | some false=>some tt
 | some true=>x
def gS (g:Option Bool) (σ:St) (x:Option (T×St)):Option (T×St):=match g with
 | none=>none
 | some false=>some (tt,σ)
 | some true=>x
def aL (σ:St) (x:Option (dV×(Nat->T))):Option (T×St):=match x with
 | some (b,f)=>some (f σ.size,σ.push b)
 | none=>none
def thn {α R:Type} (x:Option α) (K:α->Option R):Option R:=match x with
 | some a=>K a
 | none=>none
def OS {R:Type} (x:Option (T×St)) (K:T->St->Option R):Option R:=match x with
 | some (t,τ)=>K t τ
 | none=>none
def oW {R:Type} (P:Program) (aa:ak) (ops:List Oper) (o:Oper) (s:List T×St) (K:List T×St->Option R):Option R :=
 match kindOf P o.op with
 | .P=>thn (gT (cO ops s.1 o) (oJ P o.op (pd s.1))) fun t=>K (cY s.1 o.dst t,s.2)
 | .L=>thn (gT (cO ops s.1 o) (rM P o.op (pd s.1) s.2.get)) fun t=>K (cY s.1 o.dst t,s.2)
 | .A=>OS (gS (cO ops s.1 o) s.2 (aL s.2 (yc P o.op (pd s.1)))) fun t τ=>K (cY s.1 o.dst t,τ)
 | .W=>OS (gS (cO ops s.1 o) s.2 (An P aa o.op (pd s.1) s.2)) fun t τ=>K (cY s.1 o.dst t,τ)
theorem uD {R:Type} {P:Program} {aa:ak} {ops:List Oper} {o:Oper} {s:List T×St} {K:List T×St->Option R} {r:R} (h:oW P aa ops o s K=some r) :
 ∃ s',step P aa ops o s=some s'/\K s'=some r:=by
 have hT:∀ (g:Option Bool) (x:Option T) (K:T->Option R),thn (gT g x) K=some r->∃ t,K t=some r/\((g=some false/\t=tt)\/(g=some true/\x=some t)):=by
  intro g x K h
  cases g with
  | none=>cases h
  | some b=>cases b with
    | false=>exact ⟨_,h,.inl ⟨rfl,rfl⟩⟩
    | true=>cases x with
      | none=>cases h
      | some t=>exact ⟨t,h,.inr ⟨rfl,rfl⟩⟩
 have hS:∀ (g:Option Bool) (σ:St) (x:Option (T×St)) (K:T->St->Option R),OS (gS g σ x) K=some r->∃ t τ,K t τ=some r/\((g=some false/\t=tt/\τ=σ)\/(g=some true/\x=some (t,τ))):=by
  intro g σ x K h
  cases g with
  | none=>cases h
  | some b=>cases b with
    | false=>exact ⟨_,_,h,.inl ⟨rfl,rfl,rfl⟩⟩
    | true=>cases x with
      | none=>cases h
      | some t=>exact ⟨t.1,t.2,h,.inr ⟨rfl,rfl⟩⟩
 unfold oW at h
 unfold step
 split at h
 · rename_i hk
   obtain ⟨t,h1,⟨h2,rfl⟩ | ⟨h2,h3⟩⟩:=hT _ _ _ h
   · exact ⟨_,by simp only [h2],h1⟩
   · exact ⟨_,by simp only [h2,hk,h3],h1⟩
 · rename_i hk
   obtain ⟨t,h1,⟨h2,rfl⟩ | ⟨h2,h3⟩⟩:=hT _ _ _ h
   · exact ⟨_,by simp only [h2],h1⟩
   · exact ⟨_,by simp only [h2,hk,h3],h1⟩
 · rename_i hk
   obtain ⟨t,τ,h1,⟨h2,rfl,rfl⟩ | ⟨h2,h3⟩⟩:=hS _ _ _ _ h
   · exact ⟨_,by simp only [h2],h1⟩
   · unfold aL at h3
     split at h3
     · rename_i h4
       cases h3
       exact ⟨_,by simp only [h2,hk,h4],h1⟩
     · cases h3
 · rename_i hk
   obtain ⟨t,τ,h1,⟨h2,rfl,rfl⟩ | ⟨h2,h3⟩⟩:=hS _ _ _ _ h
   · exact ⟨_,by simp only [h2],h1⟩
   · exact ⟨_,by simp only [h2,hk,h3],h1⟩
def runK {R:Type} (P:Program) (aa:ak) (ops:List Oper):List Oper->List T×St->(List T×St->Option R)->Option R
 | [],s,K=>K s
 | o::r,s,K=>oW P aa ops o s fun s'=>runK P aa ops r s' K
def Xn {R:Type} (b:Bool) (x:Option R):Option R:=match b with
 | true=>x
 | false=>none
def uv {R:Type} (P:Program) (aa:ak) (ops:List Oper) (ms:List Nat):List Oper->j3->List T×St->(List T×St->Option R)->Option R
 | [],h,s,K=>Xn (o9 P ops ms (h++[s])) (K s)
 | o::r,h,s,K=>oW P aa ops o s fun s'=>uv P aa ops ms r (h++[s]) s' K
def dW (P:Program) (env:List T) (g:Mem):List ResultVar->Option (List T)
 | []=>some []
 | .tmp t::r=>match dW P env g r with
   | some l=>some (env.getD t .any::l)
   | none=>none
 | .cell a t::r=>match dM P t with
   | some true=>match cQ P t with
     | some n=>match aH n (env.getD a .any) g,dW P env g r with
       | some x,some l=>some (x::l)
       | _,_=>none
     | none=>none
   | some false=>match ab (env.getD a .any) g,dW P env g r with
     | some x,some l=>some (x::l)
     | _,_=>none
   | none=>none
def bK:List T->Option (List V)
 | []=>some []
 | .v x::r=>match bK r with
   | some l=>some (x::l)
   | none=>none
 | _::_=>none
def aQ:List T->Option T
 | [x]=>some x
 | l=>match bK l with
   | some vs=>some (.eF vs)
   | none=>none
structure Ctx where
 rets:List ResultVar
 fuel:Nat
 lv:Nat->Nat
def exec {R:Type} (P:Program) (aa:ak) (rets:List ResultVar) (N:Nat):Code->(Nat->Nat)->Nat->List T->St->(Out->St->Option R)->Option R
 | .skip,_,_,env,σ,K=>K (.normal env) σ
 | .label _,_,_,env,σ,K=>K (.normal env) σ
 | .region _ ops draw,_,_,env,σ,K=>match draw with
   | false=>runK P aa ops.toList ops.toList (env,σ) fun s=>K (.normal s.1) s.2
   | true=>match P.follows .mixedOrders&&gJ P ops.toList (dh ops.toList) with
     | true=>uv P aa ops.toList (dh ops.toList) ops.toList [] (env,σ) fun s=>K (.normal s.1) s.2
     | false=>none
 | .seq a b,ctx,lo,env,σ,K=>exec P aa rets N a ctx (fm (ey rets) b ctx lo) env σ fun o τ=>match o with
   | .normal env'=>exec P aa rets N b ctx lo env' τ K
   | .exit i v=>K (.exit i v) τ
   | .ret r=>K (.ret r) τ
 | .cond c a b,ctx,lo,env,σ,K=>match ends a&&ends b with
   | true=>mZ env.length (bH env.length lo) K (P0 (pd env c) (exec P aa rets N a ctx lo env σ (OT (bH env.length lo))) (exec P aa rets N b ctx lo env σ (OT (bH env.length lo))))
   | false=>P0 (pd env c) (exec P aa rets N a ctx lo env σ K) (exec P aa rets N b ctx lo env σ K)
 | .block id c,ctx,lo,env,σ,K =>
   mZ env.length (bH env.length lo) K (exec P aa rets N c (fun i=>if i=id then lo else ctx i) lo env σ fun o τ=>match o with
    | .normal e=>some (.normal (proj (bH env.length lo) e),τ)
    | .exit i v=>if i=id then some (.normal v,τ) else some (.exit i v,τ)
    | .ret r=>some (.ret r,τ))
 | .loop c,ctx,lo,env,σ,K =>
   let keep:=bH env.length (fm (ey rets) (.loop c) ctx lo)
   mZ env.length [] K (loops (fun dv τ=>exec P aa rets N c ctx (fm (ey rets) (.loop c) ctx lo) (place env.length keep dv) τ (OT keep)) N (proj keep env) σ)
 | .scope c,ctx,lo,env,σ,K=>exec P aa rets N c ctx lo env σ K
 | .exit id,ctx,_,env,σ,K=>K (.exit id (proj (bH env.length (ctx id)) env)) σ
 | .ret,_,_,env,σ,K=>match dW P env σ.get rets with
   | some l=>match aQ l with
     | some r=>K (.ret r) σ
     | none=>none
   | none=>none
 | _,_,_,_,_,_=>none
def body (P:Program) (aa:ak) (N:Nat) (f:FuncId) (args:List T) (σ:St):Option (T×St) :=
 match P.funcs[f]? with
 | none=>none
 | some fn=>match fn.body with
   | none=>none
   | some c=>if args.length<=fn.ntmps then
    exec P aa fn.results.toList N c (fun _=>0) 0 (args++List.replicate (fn.ntmps-args.length) tt) σ fun o τ=>match o with
     | .ret r=>some (r,τ)
     | .normal env=>match dW P env τ.get fn.results.toList with
       | some l=>match aQ l with
         | some r=>some (r,τ)
         | none=>none
       | none=>none
     | .exit _ _=>none
    else none
def run (P:Program) (N:Nat) (dC:ak):Nat->ak
 | 0=>fun _ _ _=>none
 | d+1=>fun f args σ=>match dC f args σ with
   | some r=>some r
   | none=>body P (run P N dC d) N f args σ
section
variable {P:Program} {aa:ak}
theorem fq (dv:List T):∀ (n i:Nat) (ks:List Nat) (j:Nat),(di dv n i ks j).length=n:=by
 intro n
 induction n with
 | zero=>intro i ks j;rfl
 | succ n ih =>
   intro i ks j
   cases ks with
   | nil=>simp [di,ih]
   | cons k ks =>
     simp only [di]
     split<;>simp [ih]
theorem jk (dv:List T):∀ (n i:Nat) (ks:List Nat) (j t:Nat),(di dv n i ks j).getD t .any = .any\/∃ m,ks[m]? = some (i+t)/\(di dv n i ks j).getD t .any=dv.getD (j+m) .any:=by
 intro n
 induction n with
 | zero=>intro i ks j t;left;simp [di]
 | succ n ih =>
   intro i ks j t
   cases ks with
   | nil =>
     simp only [di]
     cases t with
     | zero=>left;rfl
     | succ t =>
       rcases ih (i+1) [] j t with h | ⟨m,h,_⟩
       · left;simpa using h
       · simp at h
   | cons k ks =>
     simp only [di]
     cases hb:Nat.beq k i with
     | true =>
       have hki:k=i:=Nat.eq_of_beq_eq_true hb
       cases t with
       | zero=>right;exact ⟨0,by simp [hki],by simp⟩
       | succ t =>
         rcases ih (i+1) ks (j+1) t with h | ⟨m,h1,h2⟩
         · left;simpa using h
         · right
           refine ⟨m+1,by simp only [List.getElem?_cons_succ];rw [h1];congr 1;omega,?_⟩
           simp only [List.getD_cons_succ]
           rw [h2];congr 1;omega
     | false =>
       cases t with
       | zero=>left;rfl
       | succ t =>
         rcases ih (i+1) (k::ks) j t with h | ⟨m,h1,h2⟩
         · left;simpa using h
         · right
           refine ⟨m,by rw [h1];congr 1;omega,?_⟩
           simp only [List.getD_cons_succ]
           exact h2
theorem kD {κ:bV} {n:Nat} {keep:List Nat} {env:List T} {tmps:Array Value} (h:gF κ env tmps) (hn:n=env.length):gF κ (place n keep (proj keep env)) tmps:=by
 subst hn
 refine ⟨by rw [place,fq];exact h.len,fun t => ?_⟩
 unfold place
 rcases jk (proj keep env) env.length 0 keep 0 t with e | ⟨m,h1,h2⟩
 · rw [e];trivial
 · rw [h2]
   have:(proj keep env).getD (0+m) .any=env.getD t .any:=by
    rw [Nat.zero_add] at h1 ⊢
    rw [List.getD_eq_getElem?_getD,proj,List.getElem?_map,h1]
    rfl
   rw [this]
   exact h.rel t
theorem Fy {R:Type} {ops:List Oper}:∀ (l:List Oper) (s:List T×St) (K':List T×St->Option R) (r:R),runK P aa ops l s K'=some r->∃ s',gU P aa ops l s=some s'/\K' s'=some r:=by
 intro l
 induction l with
 | nil=>intro s K' r h;exact ⟨s,rfl,h⟩
 | cons o l ih =>
   intro s K' r h
   simp only [runK] at h
   obtain ⟨s1,h1,h⟩:=uD h
   obtain ⟨s',h2,h3⟩:=ih s1 K' r h
   exact ⟨s',by simp only [gU,h1,h2],h3⟩
theorem CM {R:Type} {ops:List Oper} {ms:List Nat}:∀ (l:List Oper) (hh:j3) (s:List T×St) (K':List T×St->Option R) (r:R),uv P aa ops ms l hh s K'=some r →
 ∃ s',AD P aa ops ms l hh s=some s'/\K' s'=some r/\gU P aa ops l s=some s':=by
 intro l
 induction l with
 | nil =>
   intro hh s K' r h
   simp only [uv] at h
   unfold Xn at h
   split at h
   · rename_i hw
     exact ⟨s,by simp only [AD,hw,if_true],h,rfl⟩
   · cases h
 | cons o l ih =>
   intro hh s K' r h
   simp only [uv] at h
   obtain ⟨s1,h1,h⟩:=uD h
   obtain ⟨s',h2,h3,h4⟩:=ih _ s1 K' r h
   exact ⟨s',by simp only [AD,h1,h2],h3,by simp only [gU,h1,h4]⟩
theorem uw {ops:List Oper}:∀ (l:List Oper) (s s':List T×St),gU P aa ops l s=some s'->s'.1.length=s.1.length:=by
 intro l
 induction l with
 | nil=>intro s s' h;cases h;rfl
 | cons o l ih =>
   intro s s' h
   simp only [gU] at h
   split at h
   · rename_i s1 h1
     obtain ⟨v,hv⟩:=uE h1
     rw [ih s1 s' h,hv,Av]
   · cases h
def Gy (P:Program) (rets:Array ResultVar) (κ:bV) (ctx:Nat->Nat) (n:Nat) (o:Out) (e:Exit) (a:Act) (u:World):Prop :=
 match o with
 | .normal env=>e = .normal/\gF κ env a.tmps/\env.length=n
 | .exit i v=>e = .exit i/\gF κ (place n (bH n (ctx i)) v) a.tmps
 | .ret r=>e = .ret/\∃ v,(∀ fn:Func,fn.results=rets->(results fn a.tmps).run P u = .ok v u)/\aK κ r v
theorem Az {κ:bV} {env:List T} {tmps:Array Value} {g:Mem} {u:World} (hE:gF κ env tmps) (hR:Rel κ g u):∀ (rs:List ResultVar) (l:List T),dW P env g rs=some l →
 ∃ vs:List Value,(rs.mapM fun r=>(match r with | .tmp t=>pure (tmps.getD t undef) | .cell a t=>do loadVar t (← asAddr (tmps.getD a undef)):Sem Value)).run P u = .ok vs u/\aT (aK κ) l vs:=by
 intro rs
 induction rs with
 | nil=>intro l h;cases h;exact ⟨[],by simp [run_pure],.nil⟩
 | cons r rs ih =>
   intro l h
   cases r with
   | tmp t =>
     simp only [dW] at h
     split at h
     · rename_i l' h'
       cases h
       obtain ⟨vs,h1,h2⟩:=ih l' h'
       exact ⟨tmps.getD t undef::vs,by simp only [List.mapM_cons,run_bind,run_pure,h1],.cons (hE.rel t) h2⟩
     · cases h
   | cell a t =>
     simp only [dW] at h
     have hx:=hE.rel a
     split at h
     · rename_i ha
       split at h
       · rename_i n hn
         split at h
         · rename_i x l' hx' h'
           cases h
           obtain ⟨v,hv,rv⟩:=we (P:=P) (t:=t) ha hn hR hx hx'
           obtain ⟨vs,h1,h2⟩:=ih l' h'
           refine ⟨v::vs,?_,.cons rv h2⟩
           have oC:(do loadVar t (← asAddr (tmps.getD a undef)):Sem Value).run P u = .ok v u:=by
            unfold aH at hx'
            split at hx'
            · rename_i i o he
              rw [he] at hx
              obtain ⟨L,hL,e⟩:=hx
              rw [e] at hv ⊢
              exact hv
            · cases hx'
           simp only [run_bind] at oC
           simp only [List.mapM_cons,run_bind,oC,run_pure,h1]
         · cases h
       · cases h
     · rename_i ha
       split at h
       · rename_i x l' hx' h'
         cases h
         obtain ⟨v,hv,rv⟩:=vZ (P:=P) (t:=t) ha hR hx hx'
         obtain ⟨vs,h1,h2⟩:=ih l' h'
         refine ⟨v::vs,?_,.cons rv h2⟩
         have oC:(do loadVar t (← asAddr (tmps.getD a undef)):Sem Value).run P u = .ok v u:=by
          unfold ab at hx'
          split at hx'
          · rename_i i o he
            rw [he] at hx
            obtain ⟨L,hL,e⟩:=hx
            rw [e] at hv ⊢
            exact hv
          · cases hx'
         simp only [run_bind] at oC
         simp only [List.mapM_cons,run_bind,oC,run_pure,h1]
       · cases h
     · cases h
theorem GM {κ:bV}:∀ {l:List T} {m:List V} {vs:List Value},bK l=some m->aT (aK κ) l vs->aT (bS κ) m vs:=by
 intro l
 induction l with
 | nil=>intro m vs h k;cases h;cases k;exact .nil
 | cons x l ih =>
   intro m vs h k
   cases k with
   | cons a k =>
     unfold bK at h
     split at h
     · rename_i he;cases he
     · rename_i y r he
       cases he
       split at h
       · rename_i m' hm
         cases h
         exact .cons a (ih hm k)
       · cases h
     · cases h
theorem rh {κ:bV} {env:List T} {tmps:Array Value} {g:Mem} {u:World} (hE:gF κ env tmps) (hR:Rel κ g u) {rets:Array ResultVar} {l:List T} {r:T} (hl:dW P env g rets.toList=some l) (hr:aQ l=some r) :
 ∃ v,(∀ fn:Func,fn.results=rets->(results fn tmps).run P u = .ok v u)/\aK κ r v:=by
 obtain ⟨vs,h1,h2⟩:=Az hE hR rets.toList l hl
 have RA:∀ fn:Func,fn.results=rets->(fn.results.mapM fun r=>(match r with | .tmp t=>pure (tmps.getD t undef) | .cell a t=>do loadVar t (← asAddr (tmps.getD a undef)):Sem Value)).run P u = .ok vs.toArray u:=by
  intro fn hfn
  rw [hfn,← Array.toArray_toList (xs:=rets),List.mapM_toArray]
  show ((Functor.map _ _:Sem _)).run P u=_
  rw [map_eq_pure_bind,run_bind,h1]
  rfl
 have hres:∀ fn:Func,fn.results=rets->(results fn tmps).run P u = .ok (if h:vs.toArray.size=1 then vs.toArray[0] else .tuple vs.toArray) u:=by
  intro fn hfn
  have key:(results fn tmps).run P u=(do
   let vs ← fn.results.mapM fun r=>(match r with | .tmp t=>pure (tmps.getD t undef) | .cell a t=>do loadVar t (← asAddr (tmps.getD a undef)):Sem Value)
   pure (if h:vs.size=1 then vs[0] else .tuple vs):Sem Value).run P u:=rfl
  rw [key,run_bind,RA fn hfn]
  rfl
 unfold aQ at hr
 split at hr
 · rename_i x
   cases hr
   cases h2 with
   | @cons _ v _ vs hx hn =>
     cases hn
     refine ⟨v,fun fn hfn => ?_,hx⟩
     rw [hres fn hfn]
     rfl
 · rename_i l' hne
   split at hr
   · rename_i m hm
     cases hr
     refine ⟨.tuple vs.toArray,fun fn hfn => ?_,vs,rfl,GM hm h2⟩
     rw [hres fn hfn]
     have hlen:=aA h2
     have:¬ vs.toArray.size=1:=by
      intro e
      simp only [List.size_toArray] at e
      rw [e] at hlen
      cases l with
      | nil=>simp at hlen
      | cons x l=>cases l with
        | nil=>exact hne x rfl
        | cons y l=>simp at hlen
     rw [dif_neg this]
   · cases hr
theorem zn {R:Type} {c:T} {a b:Option R} {r:R} (h:P0 c a b=some r):(c=B true/\a=some r)\/(c=B false/\b=some r):=by
 unfold P0 at h
 split at h
 · exact .inl ⟨rfl,h⟩
 · exact .inr ⟨rfl,h⟩
 · cases h
end
section
variable {P:Program} {aa:ak}
def Good (P:Program) (rets:Array ResultVar) (c:Code) (ctx:Nat->Nat) (env:List T) (σ:St) (o:Out) (τ:St):Prop :=
 τ.wf/\σ.size<=τ.size/\∀ (ι:bV) (a:Act) (w:World),gF ι env a.tmps->Rel ι σ.get w->gZ ι σ.size τ.size →
  ∀ (Q:Exit->Act->World->Prop),(∀ e a' u κ,a'.defers=a.defers->Ext ι σ w κ τ u->Rel κ τ.get u->Gy P rets κ ctx env.length o e a' u->Q e a' u)->c.wp P Q a w
def K4 (P:Program) (rets:Array ResultVar) (κ:bV) (ctx:Nat->Nat) (n:Nat) (keep:List Nat) (o:JO) (e:Exit) (a:Act) (u:World):Prop :=
 match o with
 | .normal v=>e = .normal/\gF κ (place n keep v) a.tmps
 | .exit i v=>Gy P rets κ ctx n (.exit i v) e a u
 | .ret r=>Gy P rets κ ctx n (.ret r) e a u
theorem yD {rets:Array ResultVar} {κ:bV} {ctx:Nat->Nat} {n:Nat} {keep:List Nat} {o:Out} {τ yW:St} {j:JO} {e:Exit} {a:Act} {u:World} (h:OT keep o τ=some (j,yW)) (ho:Gy P rets κ ctx n o e a u) :
 yW=τ/\K4 P rets κ ctx n keep j e a u:=by
 cases o with
 | normal env=>cases h;exact ⟨rfl,ho.1,kD ho.2.1 ho.2.2.symm⟩
 | exit i v=>cases h;exact ⟨rfl,ho⟩
 | ret r=>cases h;exact ⟨rfl,ho⟩
theorem CT {keep:List Nat} {o:Out} {τ yW:St} {j:JO} (h:OT keep o τ=some (j,yW)):yW=τ:=by cases o<;>cases h<;>rfl
theorem BX {R:Type} {n:Nat} {keep:List Nat} {K':Out->St->Option R} {x:Option (JO×St)} {r:R} (h:mZ n keep K' x=some r):∃ j τ,x=some (j,τ) ∧
 match j with
 | .normal v=>K' (.normal (place n keep v)) τ=some r
 | .exit i v=>K' (.exit i v) τ=some r
 | .ret q=>K' (.ret q) τ=some r:=by
 unfold mZ at h
 split at h
 · cases h
 · exact ⟨_,_,rfl,h⟩
 · exact ⟨_,_,rfl,h⟩
 · exact ⟨_,_,rfl,h⟩
def JO.out (n:Nat) (keep:List Nat):JO->Out
 | .normal v => .normal (place n keep v)
 | .exit i v => .exit i v
 | .ret r => .ret r
theorem pP {R:Type} {n:Nat} {keep:List Nat} {K':Out->St->Option R} {x:Option (JO×St)} {r:R} (h:mZ n keep K' x=some r):∃ j τ,x=some (j,τ)/\K' (j.out n keep) τ=some r:=by
 obtain ⟨j,τ,h1,h2⟩:=BX h
 refine ⟨j,τ,h1,?_⟩
 cases j<;>exact h2
theorem Ao {rets:Array ResultVar} {κ:bV} {ctx:Nat->Nat} {n:Nat} {keep:List Nat} {j:JO} {e:Exit} {a:Act} {u:World} (h:K4 P rets κ ctx n keep j e a u):Gy P rets κ ctx n (j.out n keep) e a u:=by
 cases j with
 | normal v=>exact ⟨h.1,h.2,by rw [place,fq]⟩
 | exit i v=>exact h
 | ret r=>exact h
theorem Ck {rets:Array ResultVar} {c:Code} {ctx:Nat->Nat} {n:Nat} {keep:List Nat} {f:List T->St->Option (JO×St)}
 (hf:∀ dv σ j τ,f dv σ=some (j,τ)->σ.wf->τ.wf/\σ.size<=τ.size/\∀ (ι:bV) (a:Act) (w:World),gF ι (place n keep dv) a.tmps->Rel ι σ.get w->gZ ι σ.size τ.size →
  ∀ (Q:Exit->Act->World->Prop),(∀ e a' u κ,a'.defers=a.defers->Ext ι σ w κ τ u->Rel κ τ.get u->K4 P rets κ ctx n keep j e a' u->Q e a' u)->c.wp P Q a w) :
 ∀ (N:Nat) (dv:List T) (σ:St) (j:JO) (τ:St),loops f N dv σ=some (j,τ)->σ.wf->τ.wf/\σ.size<=τ.size/\(∀ v,j ≠ .normal v)/\∀ (ι:bV) (a:Act) (w:World),gF ι (place n keep dv) a.tmps->Rel ι σ.get w →
   gZ ι σ.size τ.size->∀ (Q:Exit->Act->World->Prop),(∀ e a' u κ,a'.defers=a.defers->Ext ι σ w κ τ u->Rel κ τ.get u->K4 P rets κ ctx n keep j e a' u->Q e a' u)->Code.rounds P c Q N a w:=by
 intro N
 induction N with
 | zero=>intro dv σ j τ h;cases h
 | succ N ih =>
   intro dv σ j τ h wf
   simp only [loops] at h
   split at h
   · cases h
   · rename_i Ky VN h1
     obtain ⟨mW,z1,g1⟩:=hf dv σ _ VN h1 wf
     obtain ⟨Ss,z2,hn,g2⟩:=ih Ky VN j τ h mW
     refine ⟨Ss,Nat.le_trans z1 z2,hn,fun ι a w hE hR hF Q hQ => ?_⟩
     rw [rounds_succ]
     refine g1 ι a w hE hR (hF.sub (Nat.le_refl _) z2) _ fun e a' u κ hd hX j0 hJ => ?_
     obtain ⟨rfl,yM⟩:=hJ
     refine g2 κ a' u yM j0 (hF.next hX) Q fun e Tv u' VL ky Ri Il T4 => ?_
     exact hQ e Tv u' VL (ky.trans hd) (hX.trans Ri) Il T4
   · rename_i i v VN h1
     cases h
     obtain ⟨mW,z1,g1⟩:=hf dv σ _ τ h1 wf
     refine ⟨mW,z1,(fun v h=>by cases h),fun ι a w hE hR hF Q hQ => ?_⟩
     rw [rounds_succ]
     refine g1 ι a w hE hR hF _ fun e a' u κ hd hX j0 hJ => ?_
     have T4:=hJ
     obtain ⟨rfl,_⟩:=hJ
     exact hQ _ a' u κ hd hX j0 T4
   · rename_i r VN h1
     cases h
     obtain ⟨mW,z1,g1⟩:=hf dv σ _ τ h1 wf
     refine ⟨mW,z1,(fun v h=>by cases h),fun ι a w hE hR hF Q hQ => ?_⟩
     rw [rounds_succ]
     refine g1 ι a w hE hR hF _ fun e a' u κ hd hX j0 hJ => ?_
     have T4:=hJ
     obtain ⟨rfl,_⟩:=hJ
     exact hQ _ a' u κ hd hX j0 T4
theorem EF (hs:aM P aa) (rets:Array ResultVar) (N:Nat):∀ (c:Code) {R:Type} (ctx:Nat->Nat) (lo:Nat) (env:List T) (σ:St) (K':Out->St->Option R) (r:R),
 exec P aa rets.toList N c ctx lo env σ K'=some r->σ.wf->∃ o τ,K' o τ=some r/\Good P rets c ctx env σ o τ:=by
 intro c
 induction c with
 | skip =>
   intro R ctx lo env σ K' r h wf
   simp only [exec] at h
   refine ⟨_,_,h,wf,Nat.le_refl _,fun ι a w hE hR hF Q hQ=>wp_skip (hQ _ a w ι rfl (Ext.refl _ _ _) hR ⟨rfl,hE,rfl⟩)⟩
 | region id ops draw =>
   intro R ctx lo env σ K' r h wf
   simp only [exec] at h
   split at h
   · obtain ⟨s',h1,h2⟩:=Fy _ _ _ _ h
     obtain ⟨env',τ⟩:=s'
     obtain ⟨Z3,z⟩:=qt hs h1 wf
     have hl:=uw _ _ _ h1
     refine ⟨_,_,h2,Z3,z,fun ι a w hE hR hF Q hQ => ?_⟩
     exact CJ hs h1 hE hR wf hF fun κ u a' hd yM hX j0=>hQ _ a' u κ hd hX j0 ⟨rfl,yM,hl⟩
   · split at h
     · rename_i hc
       obtain ⟨s',h1,h2,h3⟩:=CM _ _ _ _ _ h
       obtain ⟨env',τ⟩:=s'
       obtain ⟨Z3,z⟩:=qt hs h3 wf
       have hl:=uw _ _ _ h3
       refine ⟨_,_,h2,Z3,z,fun ι a w hE hR hF Q hQ => ?_⟩
       have hrun:sB P aa ops.toList (env,σ)=some (env',τ):=by
        unfold sB
        rw [if_pos hc]
        exact h1
       exact Ax hs hrun hE hR wf hF fun κ u a' hd yM hX j0=>hQ _ a' u κ hd hX j0 ⟨rfl,yM,hl⟩
     · cases h
 | seq x y DB DC =>
   intro R ctx lo env σ K' r h wf
   simp only [exec] at h
   obtain ⟨o1,VN,h1,mW,z1,g1⟩:=DB _ _ _ _ _ _ h wf
   cases o1 with
   | normal TF =>
     obtain ⟨o2,τ2,h2,Ss,z2,g2⟩:=DC _ _ _ _ _ _ h1 mW
     refine ⟨o2,τ2,h2,Ss,Nat.le_trans z1 z2,fun ι a w hE hR hF Q hQ => ?_⟩
     refine wp_seq (g1 ι a w hE hR (hF.sub (Nat.le_refl _) z2) _ fun e a' u κ hd hX j0 hO => ?_)
     obtain ⟨rfl,yM,hl⟩:=hO
     refine g2 κ a' u yM j0 (hF.next hX) Q fun e Tv u' VL ky Ri Il O7 => ?_
     rw [hl] at O7
     exact hQ e Tv u' VL (ky.trans hd) (hX.trans Ri) Il O7
   | exit i v =>
     refine ⟨_,_,h1,mW,z1,fun ι a w hE hR hF Q hQ => ?_⟩
     refine wp_seq (g1 ι a w hE hR hF _ fun e a' u κ hd hX j0 hO => ?_)
     have O7:=hO
     obtain ⟨rfl,_⟩:=hO
     exact hQ _ a' u κ hd hX j0 O7
   | ret q =>
     refine ⟨_,_,h1,mW,z1,fun ι a w hE hR hF Q hQ => ?_⟩
     refine wp_seq (g1 ι a w hE hR hF _ fun e a' u κ hd hX j0 hO => ?_)
     have O7:=hO
     obtain ⟨rfl,_⟩:=hO
     exact hQ _ a' u κ hd hX j0 O7
 | cond c x y DB DC =>
   intro R ctx lo env σ K' r h wf
   have cW:∀ (b:Bool) (ι:bV) (a:Act),gF ι env a.tmps->pd env c=B b->a.eval c = .bool b:=by
    intro b ι a hE he
    have:=C9 (a:=a) hE.rel c
    rw [he] at this
    exact this
   simp only [exec] at h
   split at h
   · obtain ⟨j,τ,hx,hk⟩:=pP h
     rcases zn hx with ⟨hb,hx⟩ | ⟨hb,hx⟩
     · obtain ⟨o,yW,h1,mW,z1,g1⟩:=DB _ _ _ _ _ _ hx wf
       have:=CT h1
       subst this
       refine ⟨_,_,hk,mW,z1,fun ι a w hE hR hF Q hQ=>wp_cond_true (cW true ι a hE hb) ?_⟩
       exact g1 ι a w hE hR hF Q fun e a' u κ hd hX j0 hO=>hQ e a' u κ hd hX j0 (Ao (yD h1 hO).2)
     · obtain ⟨o,yW,h1,mW,z1,g1⟩:=DC _ _ _ _ _ _ hx wf
       have:=CT h1
       subst this
       refine ⟨_,_,hk,mW,z1,fun ι a w hE hR hF Q hQ=>wp_cond_false (cW false ι a hE hb) ?_⟩
       exact g1 ι a w hE hR hF Q fun e a' u κ hd hX j0 hO=>hQ e a' u κ hd hX j0 (Ao (yD h1 hO).2)
   · rcases zn h with ⟨hb,hx⟩ | ⟨hb,hx⟩
     · obtain ⟨o,τ,h1,mW,z1,g1⟩:=DB _ _ _ _ _ _ hx wf
       refine ⟨o,τ,h1,mW,z1,fun ι a w hE hR hF Q hQ=>wp_cond_true (cW true ι a hE hb) (g1 ι a w hE hR hF Q hQ)⟩
     · obtain ⟨o,τ,h1,mW,z1,g1⟩:=DC _ _ _ _ _ _ hx wf
       refine ⟨o,τ,h1,mW,z1,fun ι a w hE hR hF Q hQ=>wp_cond_false (cW false ι a hE hb) (g1 ι a w hE hR hF Q hQ)⟩
 | block id c ih =>
   intro R ctx lo env σ K' r h wf
   simp only [exec] at h
   obtain ⟨j,τ,hx,hk⟩:=pP h
   obtain ⟨o,yW,h1,mW,z1,g1⟩:=ih _ _ _ _ _ _ hx wf
   have ph:yW=τ:=by
    cases o with
    | normal e=>cases h1;rfl
    | exit i v=>simp only at h1;split at h1<;>cases h1<;>rfl
    | ret q=>cases h1;rfl
   subst ph
   refine ⟨_,_,hk,mW,z1,fun ι a w hE hR hF Q hQ => ?_⟩
   refine wp_block (g1 ι a w hE hR hF _ fun e a' u κ hd hX j0 hO => ?_)
   cases o with
   | normal e' =>
     cases h1
     obtain ⟨rfl,yM,hl⟩:=hO
     exact hQ _ a' u κ hd hX j0 ⟨rfl,kD yM hl.symm,by rw [place,fq]⟩
   | exit i v =>
     simp only at h1
     obtain ⟨rfl,yM⟩:=hO
     split at h1
     · rename_i hi
       subst hi
       cases h1
       simp only [if_true] at yM
       show (if i=i then Q .normal a' u else _)
       rw [if_pos rfl]
       exact hQ _ a' u κ hd hX j0 ⟨rfl,yM,by rw [place,fq]⟩
     · rename_i hi
       cases h1
       simp only [if_neg hi] at yM
       show (if i=id then Q .normal a' u else Q (.exit i) a' u)
       rw [if_neg hi]
       exact hQ _ a' u κ hd hX j0 ⟨rfl,yM⟩
   | ret q =>
     cases h1
     have O7:=hO
     obtain ⟨rfl,_⟩:=hO
     exact hQ _ a' u κ hd hX j0 O7
 | loop c ih =>
   intro R ctx lo env σ K' r h wf
   simp only [exec] at h
   obtain ⟨j,τ,hx,hk⟩:=pP h
   let lv:=fm (ey rets.toList) (.loop c) ctx lo
   let keep:=bH env.length lv
   have Ux:∀ dv,(place env.length keep dv).length=env.length:=fun dv=>by rw [place,fq]
   obtain ⟨mW,z1,hn,g1⟩:=Ck (P:=P) (rets:=rets) (c:=c) (ctx:=ctx) (n:=env.length) (keep:=keep)
    (f:=fun dv τ=>exec P aa rets.toList N c ctx lv (place env.length keep dv) τ (OT keep)) (by
     intro dv σ j τ h wf
     obtain ⟨o,yW,h1,mW,z1,g1⟩:=ih _ _ _ _ _ _ h wf
     have:=CT h1
     subst this
     refine ⟨mW,z1,fun ι a w hE hR hF Q hQ => ?_⟩
     refine g1 ι a w hE hR hF Q fun e a' u κ hd hX j0 hO => ?_
     rw [Ux] at hO
     exact hQ e a' u κ hd hX j0 (yD h1 hO).2) N _ σ j τ hx wf
   refine ⟨_,_,hk,mW,z1,fun ι a w hE hR hF Q hQ => ?_⟩
   refine wp_loop_rounds N (g1 ι a w (kD hE rfl) hR hF Q fun e a' u κ hd hX j0 hJ => ?_)
   refine hQ e a' u κ hd hX j0 ?_
   cases j with
   | normal v=>exact (hn v rfl).elim
   | exit i v=>exact hJ
   | ret q=>exact hJ
 | scope c ih =>
   intro R ctx lo env σ K' r h wf
   simp only [exec] at h
   obtain ⟨o,τ,h1,mW,z1,g1⟩:=ih _ _ _ _ _ _ h wf
   refine ⟨o,τ,h1,mW,z1,fun ι a w hE hR hF Q hQ => ?_⟩
   refine wp_scope_straight (g1 ι a w hE hR hF _ fun e a' u κ hd hX j0 hO => ?_)
   have hq:=hQ e a' u κ hd hX j0 hO
   cases o with
   | normal e'=>obtain ⟨rfl,_⟩:=hO;exact hq
   | exit i v=>obtain ⟨rfl,_⟩:=hO;exact hq
   | ret q=>obtain ⟨rfl,_⟩:=hO;exact hq
 | exit id =>
   intro R ctx lo env σ K' r h wf
   simp only [exec] at h
   refine ⟨_,_,h,wf,Nat.le_refl _,fun ι a w hE hR hF Q hQ=>wp_exit (hQ _ a w ι rfl (Ext.refl _ _ _) hR ⟨rfl,kD hE rfl⟩)⟩
 | ret =>
   intro R ctx lo env σ K' r h wf
   simp only [exec] at h
   split at h
   · rename_i l hl
     split at h
     · rename_i q hq
       refine ⟨_,_,h,wf,Nat.le_refl _,fun ι a w hE hR hF Q hQ=>wp_ret (hQ _ a w ι rfl (Ext.refl _ _ _) hR ⟨rfl,rh hE hR hl hq⟩)⟩
     · cases h
   · cases h
 | rangeFunc f ps x y=>intro R ctx lo env σ K' r h wf;simp only [exec] at h;cases h
 | label l =>
   intro R ctx lo env σ K' r h wf
   simp only [exec] at h
   refine ⟨_,_,h,wf,Nat.le_refl _,fun ι a w hE hR hF Q hQ=>wp_label (hQ _ a w ι rfl (Ext.refl _ _ _) hR ⟨rfl,hE,rfl⟩)⟩
 | goto l=>intro R ctx lo env σ K' r h wf;simp only [exec] at h;cases h
 | refuse s=>intro R ctx lo env σ K' r h wf;simp only [exec] at h;cases h
theorem oo (ts:List T) (vs:List Value) (ι:bV) (n:Nat) (h:aT (aK ι) ts vs):gF ι (ts++List.replicate n tt) (vs.toArray++Array.replicate n undef):=by
 have hl:=aA h
 refine ⟨by simp [hl],fun t => ?_⟩
 rw [List.getD_eq_getElem?_getD,Array.getD_eq_getD_getElem?]
 by_cases ht:t<ts.length
 · rw [List.getElem?_append_left ht,Array.getElem?_append_left (by simp;omega)]
   obtain ⟨v,hv,r⟩:=bn h t ts[t] (List.getElem?_eq_getElem ht)
   rw [List.getElem?_eq_getElem ht]
   simp only [List.getElem?_toArray,hv,Option.getD_some]
   exact r
 · rw [List.getElem?_append_right (by omega),Array.getElem?_append_right (by simp;omega)]
   by_cases h2:t-ts.length<n
   · rw [List.getElem?_replicate,if_pos h2,Array.getElem?_replicate,if_pos (by simp;omega)]
     exact gK
   · rw [List.getElem?_replicate,if_neg h2]
     trivial
theorem BI (hs:aM P aa) (N:Nat):aM P (body P aa N):=by
 have key:∀ f ts σ t τ,body P aa N f ts σ=some (t,τ)->σ.wf->∃ fn c o,P.funcs[f]? = some fn/\fn.body=some c/\ts.length<=fn.ntmps ∧
  Good P fn.results c (fun _=>0) (ts++List.replicate (fn.ntmps-ts.length) tt) σ o τ ∧
  (match o with
   | .ret r=>r=t
   | .normal env=>∃ l,dW P env τ.get fn.results.toList=some l/\aQ l=some t
   | .exit _ _=>False):=by
  intro f ts σ t τ h wf
  unfold body at h
  split at h
  · cases h
  · rename_i fn hfn
    split at h
    · cases h
    · rename_i c hc
      split at h
      · rename_i hle
        obtain ⟨o,yW,h1,hg⟩:=EF hs fn.results N c _ _ _ _ _ _ h wf
        cases o with
        | ret r=>cases h1;exact ⟨fn,c,.ret t,hfn,hc,hle,hg,rfl⟩
        | normal env =>
          simp only at h1
          split at h1
          · rename_i l hl
            split at h1
            · rename_i q hq
              cases h1
              exact ⟨fn,c,.normal env,hfn,hc,hle,hg,l,hl,hq⟩
            · cases h1
          · cases h1
        | exit i v=>cases h1
      · cases h
 constructor
 · intro f ts σ t τ h wf
   obtain ⟨fn,c,o,_,_,_,hg,_⟩:=key f ts σ t τ h wf
   exact ⟨hg.1,hg.2.1⟩
 · intro f ts σ t τ h wf ι w vs hR hF hargs
   obtain ⟨fn,c,o,hfn,hc,hle,hg,ho⟩:=key f ts σ t τ h wf
   obtain ⟨_,_,g⟩:=hg
   have hl:=aA hargs
   refine calls_of_wp hfn hc ?_
   have XZ:=oo ts vs ι (fn.ntmps-ts.length) hargs
   have hsz:fn.ntmps-vs.toArray.size=fn.ntmps-ts.length:=by simp [hl]
   rw [hsz]
   refine g ι _ w XZ hR hF _ fun e a' u κ hd hX j0 hO => ?_
   cases o with
   | ret r =>
     obtain ⟨rfl,v,hv,hT⟩:=hO
     simp only at ho
     subst ho
     exact ⟨hd,v,hv fn rfl,κ,v,rfl,hX,j0,hT⟩
   | normal env =>
     obtain ⟨rfl,yM,_⟩:=hO
     obtain ⟨l,sc,hq⟩:=ho
     obtain ⟨v,hv,hT⟩:=rh yM j0 sc hq
     exact ⟨hd,v,hv fn rfl,κ,v,rfl,hX,j0,hT⟩
   | exit i v=>exact ho.elim
theorem kC:aM P (fun _ _ _=>none):=⟨(fun f ts σ t τ h=>by cases h),(fun f ts σ t τ h=>by cases h)⟩
end
end Go.Abs
namespace Go.Abs
open Go Go.ChangeShapes
def Kept (W u:World):Prop:=u.os=W.os/\u.output=W.output/\W.heap.size<=u.heap.size/\∀ k,k<W.heap.size->u.heap[k]? = W.heap[k]?
theorem Kept.but {W u:World} (h:Kept W u) (may:MemPlace->Prop):W.keptBut u may:=by
 refine ⟨h.1,h.2.1,fun i hi => ?_⟩
 rw [h.2.2.2 i hi]
 cases W.heap[i]? with
 | none=>trivial
 | some o=>cases o with
   | cells c t fr=>exact ⟨rfl,rfl,rfl,fun _ _=>rfl⟩
   | map es clock=>exact .inr ⟨rfl,rfl⟩
   | _=>rfl
theorem Kept.frozen {W u:World} (h:Kept W u) {a:Addr} (ha:a.block<W.heap.size):u.frozen? a=W.frozen? a:=by
 unfold World.frozen?
 rw [h.2.2.2 _ ha]
theorem xx {P:Program} {aa:ak} (hs:aM P aa) {f:FuncId} {ts:List T} {vs:List Value} {σ τ:St} {ι:bV} {W:World} {b:Bool}
 (h:aa f ts σ=some (B b,τ)) (wf:σ.wf) (hR:Rel ι σ.get W) (hF:gZ ι σ.size τ.size) (hA:aT (aK ι) ts vs)
 (hc:∀ i L,i<σ.size->ι i=some L->¬ live (σ.get i)) :
 Calls P f vs.toArray W fun e u=>e = .returned (.bool b)/\Kept W u:=by
 refine (hs.calls f ts σ _ τ h wf ι W vs hR hF hA).mono fun e u ⟨κ,v,he,hX,_,hT⟩ => ?_
 have hv:v = .bool b:=hT
 subst hv
 exact ⟨he,hX.os,hX.output,hX.hsize,fun k hk=>hX.keep k hk fun i L hi hL hl=>absurd hl (hc i L hi hL)⟩
section
variable {H:Type} {enc:TypeId×Value->H} {P:Program}
theorem Fo {f:Func} {s:ChangeSpec} {apart fresh handsOn again:Bool} {W u:World} {args:Array Value} {v:Value} {ds gs:List (DataW H)} {before pa pv:List MemPlace}
 (hW:DataW.Whole enc P f.params.toList s.vars apart W args.toList ds gs before) (hk:Kept W u) (hps:before=pa++pv)
 (hres:∀ (b:Nat) (sp:Nat->Bool) (hd:Bool),DataW.TrodAll enc P u b sp hd f.resultTypes.toList (v.resultList f.resultTypes.size) (s.fn H (ds++gs)).results [])
 (hargs:∀ sp:Nat->Bool,(∀ p∈before,sp p.block=true)->DataW.TrodAll enc P u 0 sp true f.params.toList args.toList (s.fn H (ds++gs)).args pa)
 (hvars:∀ sp:Nat->Bool,(∀ p∈before,sp p.block=true)->DataW.TrodVars enc P u sp s.vars (s.fn H (ds++gs)).vars pv)
 (hok:∀ (j:Nat) (t:TypeId) (r:Value),f.resultTypes[j]? = some t->(v.resultList f.resultTypes.size)[j]? = some r->Value.okWide P u .any 0 t r) :
 s.post enc P f apart fresh handsOn again W args v u:=by
 have lt:=hW.lt
 have old:∀ p∈before,(fun b=>decide (b<W.heap.size)) p.block=true:=fun p hp=>decide_eq_true (lt p hp)
 have yes:∀ p∈before,(fun _:Nat=>true) p.block=true:=fun _ _=>rfl
 have whole:=hW
 obtain ⟨p1,p2,w1,w2,w3,Jw,apart'⟩:=hW
 refine ⟨ds,gs,before,[],pa,pv,whole,hres _ _ _,hargs _ old,hvars _ old,World.keptBut_mono (fun _ h=>h.elim) (hk.but fun _=>False),fun _=>⟨hok,(s.fn H (ds++gs)).results++(s.fn H (ds++gs)).args,(s.fn H (ds++gs)).vars,pa++pv,?_,fun p hp _=>by rw [hps];exact hp⟩⟩
 refine ⟨[]++pa,pv,?_,hvars _ yes,rfl,fun b off hp => ?_,fun ha => ?_⟩
 · have h1:=hargs (fun _=>true) yes
   have h2:=hres 0 (fun _=>true) true
   exact trodAll_append h1 h2
 · have hp':MemPlace.cell b off∈before:=by rw [hps];exact hp
   rw [hk.frozen (lt _ hp')]
   exact Jw b off hp'
 · rw [← hps]
   exact apart' ha
end
end Go.Abs
