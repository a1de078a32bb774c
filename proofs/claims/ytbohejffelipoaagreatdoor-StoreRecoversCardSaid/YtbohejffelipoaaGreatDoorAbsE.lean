/-
  A library of our own, several texts in one: an abstract store for the model, and runs over it. Nothing here speaks of any program. No conditions.
-/
import Derived.Test.YtbohejffelipoaaGreatDoorAbsC
import Derived.Carry
import Derived.Test.YtbohejffelipoaaGreatDoorAbsD
import Derived.Lib.LaidTab
import Derived.Below
import Derived.Lib.Bytealg
import Derived.Lib.Join
import Derived.ChangeArms
import Derived.DataReads
namespace Go.Abs
open Go Go.ChangeShapes
inductive AK where
 | bool
 | int (k:IntKind)
 | str
 deriving DecidableEq
def KS:AK->S->Prop
 | .bool,.bool _=>True
 | .int k,.int q n=>q=k/\(Lit.int k n).wf=true
 | .str,.str l=>l.length<=maxLen
 | _,_=>False
def Dl (P:Program) (g:TypeId->Option (List AK)):List Field->Nat->Option (List AK)
 | [],_=>some []
 | f::fs,off=>if f.offset=off then
    match g f.type with
    | none=>none
    | some ks=>if ks.length=P.cellsOf f.type then (Dl P g fs (off+ks.length)).map (ks++·) else none
  else none
def mY (P:Program):Nat->TypeId->Option (List AK)
 | 0,_=>none
 | n+1,t=>match P.underlying t with
   | some .bool=>some [.bool]
   | some (.int k)=>some [.int k]
   | some .string=>some [.str]
   | some (.struct fs)=>match Dl P (mY P n) fs.toList 0 with
     | none=>none
     | some ks=>if ks.length=P.cellsOf t then some ks else none
   | some (.array m e)=>match mY P n e with
     | none=>none
     | some ks=>if ks.length=P.cellsOf e/\P.cellsOf t=m*ks.length then some (List.replicate m ks).flatten else none
   | _=>none
section
variable {H:Type} {enc:TypeId×Value->H} {P:Program} {w:World} {base:Nat} {spare:Nat->Bool} {held:Bool}
theorem zF {cs:List Value} {g:TypeId->Option (List AK)}
 (hg:∀ (off:Nat) (t:TypeId) (ks:List AK) (m:Nat) (x:DataW H×List MemPlace),DataW.trod enc P w base spare held m t ((cs.drop off).take (P.cellsOf t))=some x->g t=some ks->∃ xs:List S,aT KS ks xs/\∀ ι,aT (ba ι) xs ((cs.drop off).take (P.cellsOf t))) :
 ∀ (fs:List Field) (off:Nat) (ks:List AK),Dl P g fs off=some ks->(∀ f∈fs,∃ m x,DataW.trod enc P w base spare held m f.type ((cs.drop f.offset).take (P.cellsOf f.type))=some x) →
   ∃ xs:List S,aT KS ks xs/\∀ ι,aT (ba ι) xs ((cs.drop off).take ks.length):=by
 intro fs
 induction fs with
 | nil =>
   intro off ks h _
   cases h
   exact ⟨[],.nil,fun ι=>by simpa using aT.nil⟩
 | cons f fs ih =>
   intro off ks h hx
   unfold Dl at h
   split at h
   · rename_i ho
     subst ho
     split at h
     · cases h
     · rename_i k1 jb
       split at h
       · rename_i hl
         rw [Option.map_eq_some_iff] at h
         obtain ⟨k2,hk2,rfl⟩:=h
         obtain ⟨m,x,hx1⟩:=hx f List.mem_cons_self
         obtain ⟨x1,a1,b1⟩:=hg f.offset f.type k1 m x hx1 jb
         obtain ⟨x2,a2,b2⟩:=ih (f.offset+k1.length) k2 hk2 fun f' Cb=>hx f' (List.mem_cons_of_mem _ Cb)
         refine ⟨x1++x2,bq a1 a2,fun ι => ?_⟩
         rw [List.length_append,List.take_add,List.drop_drop]
         have O0:=b1 ι
         rw [← hl] at O0
         exact bq O0 (b2 ι)
       · cases h
   · cases h
theorem EH {cs:List Value} {ks:List AK} (c:Nat) (hc:ks.length=c) :
 ∀ (m off:Nat),(∀ i,i<m->∃ xs:List S,aT KS ks xs/\∀ ι,aT (ba ι) xs ((cs.drop (off+i*c)).take c)) →
   ∃ xs:List S,aT KS (List.replicate m ks).flatten xs/\∀ ι,aT (ba ι) xs ((cs.drop off).take (m*c)):=by
 intro m
 induction m with
 | zero=>intro off _;exact ⟨[],.nil,fun ι=>by simpa using aT.nil⟩
 | succ m ih =>
   intro off h
   obtain ⟨x1,a1,b1⟩:=h 0 (by omega)
   obtain ⟨x2,a2,b2⟩:=ih (off+c) fun i hi=>by
    have:=h (i+1) (by omega)
    rwa [show off+(i+1)*c=off+c+i*c by rw [Nat.add_mul];omega] at this
   refine ⟨x1++x2,?_,fun ι => ?_⟩
   · rw [List.replicate_succ,List.flatten_cons]
     exact bq a1 a2
   · rw [show (m+1)*c=c+m*c by rw [Nat.add_mul];omega,List.take_add,List.drop_drop]
     have O0:=b1 ι
     rw [Nat.zero_mul,Nat.add_zero] at O0
     exact bq O0 (b2 ι)
theorem pM:∀ (n m:Nat) (t:TypeId) (cs:List Value) (x:DataW H×List MemPlace) (ks:List AK),DataW.trod enc P w base spare held m t cs=some x->mY P n t=some ks →
 ∃ xs:List S,aT KS ks xs/\∀ ι,aT (ba ι) xs cs:=by
 intro n
 induction n with
 | zero=>intro m t cs x ks _ h;cases h
 | succ n ih =>
   intro m t cs x ks hx h
   unfold mY at h
   split at h
   · rename_i ht
     cases h
     obtain ⟨b,rfl,_⟩:=DataW.trod_bool ht hx
     exact ⟨[.bool b],.cons trivial .nil,fun ι => .cons rfl .nil⟩
   · rename_i k ht
     cases h
     obtain ⟨b,rfl,_,hw⟩:=DataW.trod_int ht hx
     exact ⟨[.int k b],.cons ⟨rfl,hw⟩ .nil,fun ι => .cons rfl .nil⟩
   · rename_i ht
     cases h
     obtain ⟨s,rfl,_,hw⟩:=DataW.trod_string ht hx
     exact ⟨[.str s.data.toList],.cons (by simpa [KS] using hw) .nil,fun ι => .cons ⟨s,rfl,rfl⟩ .nil⟩
   · rename_i fs ht
     split at h
     · cases h
     · rename_i k1 jb
       split at h
       · rename_i hl
         cases h
         obtain ⟨xs,m',_,_,jy,hxl,hxs⟩:=DataW.trod_struct ht hx
         obtain ⟨ys,a,b⟩:=zF (cs:=cs) (g:=mY P n) (fun off t ks m x h1 h2=>ih m t _ x ks h1 h2) fs.toList 0 ks jb fun f hf=>by
          obtain ⟨i,hi⟩:=List.getElem?_of_mem hf
          have hi':fs[i]? = some f:=by simpa using hi
          have h2:=hxs i f hi'
          have h3:i<xs.length:=by rw [hxl];exact (Array.getElem?_eq_some_iff.1 hi').1
          rw [List.getElem?_eq_getElem h3] at h2
          exact ⟨m',_,h2⟩
         refine ⟨ys,a,fun ι => ?_⟩
         have:=b ι
         rwa [List.drop_zero,hl,← jy,List.take_length] at this
       · cases h
   · rename_i q e ht
     split at h
     · cases h
     · rename_i k1 jb
       split at h
       · rename_i hl
         cases h
         obtain ⟨xs,m',_,_,jy,hxl,hxs⟩:=DataW.trod_array ht hx
         obtain ⟨ys,a,b⟩:=EH (cs:=cs) (ks:=k1) (P.cellsOf e) hl.1 q 0 fun i hi=>by
          have h2:=hxs i hi
          have h3:i<xs.length:=by rw [hxl];exact hi
          rw [List.getElem?_eq_getElem h3] at h2
          obtain ⟨zs,a,b⟩:=ih m' e _ _ k1 h2 jb
          exact ⟨zs,a,fun ι=>by rw [Nat.zero_add];exact b ι⟩
         refine ⟨ys,a,fun ι => ?_⟩
         have:=b ι
         rwa [List.drop_zero,← hl.1,← hl.2,← jy,List.take_length] at this
       · cases h
   · cases h
def dI (vs:List S):dV:=match vs with
 | [] => .dead
 | x::l => .cells false (x::l)
theorem eV (vs:List S):¬ live (some (dI vs)):=by
 cases vs<;>exact fun h=>h
theorem C8 {b:Nat} {c:Array Value} {el:TypeId} {fz:Nat×Nat} (hb:w.heap[b]? = some (.cells c el fz)) (i j:Nat) {o:Nat}:w.cell? (((⟨b,o,none⟩:Addr).add i).add j)=c[o+i+j]? := by
 have h:((⟨b,o,none⟩:Addr).add i).add j=⟨b,o+i+j,none⟩:=by
  unfold Addr.add
  split<;>split<;>simp_all
 rw [h]
 unfold World.cell?
 simp [hb]
theorem Cv {r:Reach} {b0:Nat} {t e:TypeId} {ks:List AK} {n:Nat} {v:Value} {d:DataW H} {ps:List MemPlace} (ht:P.underlying t=some (.slice e)) (hk:mY P n e=some ks) (hc:P.cellsOf e=ks.length)
 (hval:Value.okWide P w r b0 t v) (hd:DataW.Trod enc P w base spare held t v d ps) :
 v = .slice none 0 0\/∃ (b o cap:Nat) (rows:List (List S)),v = .slice (some ⟨b,o,none⟩) rows.length cap/\(rows.length<=cap/\rows.length<9223372036854775808)/\(∀ x∈rows,aT KS ks x)/\∃ L:Loc,L.b=b/\L.base=o/\∀ ι,dq ι L w (dI rows.flatten):=by
 have hv:Cell.okWide P w r b0 t v:=by
  unfold Value.okWide at hval
  rw [ht] at hval
  exact hval
 obtain ⟨fuel,hf⟩:=hd
 have oC:Cell.ok P w r b0 t v:=by
  unfold Cell.okWide at hv
  rw [ht] at hv
  exact hv
 unfold Cell.ok at oC
 rw [ht] at oC
 have Cd:v = .slice none 0 0\/∃ a len cap,v = .slice (some a) len cap/\(cap:Int)<=9223372036854775807/\w.has P r b0 a e cap:=by
  split at oC
  all_goals first | (rename_i he;cases he;done) | skip
  all_goals first | exact .inl rfl | exact oC.elim | (rename_i he;cases he;exact .inr ⟨_,_,_,rfl,oC.2.1,oC.2.2⟩)
 rcases Cd with h0 | ⟨a,len,cap,rfl,aal,Ya⟩
 · exact .inl h0
 right
 obtain ⟨_,UI,row,cells,hsh,_⟩:=Ya
 obtain ⟨b,o,sp⟩:=a
 cases UI
 rcases DataW.trod_slice ht hf with ⟨h0,_⟩ | ⟨a',len',cap',elems,rest,m,_,hcs,_,_,hl,_,hlen,hel,_,_⟩
 · simp [Value.cells] at h0
 · simp only [Value.cells,List.cons.injEq,Value.slice.injEq,Option.some.injEq,and_true] at hcs
   obtain ⟨rfl,rfl,rfl⟩:=hcs
   unfold World.shape? at hsh
   split at hsh
   · rename_i c el fz hb
     have hone:∀ i,i<len->∃ xs:List S,aT KS ks xs/\∀ j,j<ks.length->∃ x v,xs[j]? = some x/\c[o+(i*ks.length+j)]? = some v/\∀ ι,ba ι x v:=by
      intro i hi
      have h1:=hel i hi
      rw [List.getElem?_eq_getElem (by omega),Option.bind_eq_some_iff] at h1
      obtain ⟨cs,hcs,h1⟩:=h1
      obtain ⟨xs,a1,a2⟩:=pM n m e cs _ ks h1 hk
      refine ⟨xs,a1,fun j hj => ?_⟩
      have Nl:=World.cells?_some hcs
      obtain ⟨_,jy,XO⟩:=Nl
      have hx:j<xs.length:=by rw [← aA a1];exact hj
      obtain ⟨y,hy,_⟩:=bn (a2 fun _=>none) j xs[j] (List.getElem?_eq_getElem hx)
      refine ⟨xs[j],y,List.getElem?_eq_getElem hx,?_,fun ι => ?_⟩
      · have h3:=XO j (by rw [hc];exact hj)
        rw [hy,hc] at h3
        rw [← h3,← Nat.add_assoc]
        exact (C8 hb _ _).symm
      · obtain ⟨y',yP,hr⟩:=bn (a2 ι) j xs[j] (List.getElem?_eq_getElem hx)
        rw [hy] at yP
        cases yP
        exact hr
     have hrows:∀ q,q<=len->∃ rows:List (List S),rows.length=q/\(∀ x∈rows,aT KS ks x)/\∀ j,j<q*ks.length->∃ x v,rows.flatten[j]? = some x/\c[o+j]? = some v/\∀ ι,ba ι x v:=by
      intro q
      induction q with
      | zero=>intro _;exact ⟨[],rfl,fun x h=>(by cases h),fun j hj=>by simp at hj⟩
      | succ q ih =>
        intro hq
        obtain ⟨rows,h1,h2,h3⟩:=ih (by omega)
        obtain ⟨xs,a1,a2⟩:=hone q (by omega)
        have hfl:rows.flatten.length=q*ks.length:=by
         clear h3 ih hq a2
         subst h1
         induction rows with
         | nil=>simp
         | cons r l ih =>
           rw [List.flatten_cons,List.length_append,ih (fun x hx=>h2 x (List.mem_cons_of_mem _ hx)),← aA (h2 r List.mem_cons_self),List.length_cons,Nat.add_mul]
           omega
        refine ⟨rows++[xs],by simp [h1],fun x hx => ?_,fun j hj => ?_⟩
        · rw [List.mem_append,List.mem_singleton] at hx
          rcases hx with hx | rfl
          · exact h2 x hx
          · exact a1
        · rw [List.flatten_append,List.flatten_singleton]
          rcases Nat.lt_or_ge j (q*ks.length) with hj' | hj'
          · rw [List.getElem?_append_left (by omega)]
            exact h3 j hj'
          · rw [List.getElem?_append_right (by omega),hfl]
            obtain ⟨x,v,e1,e2,e3⟩:=a2 (j-q*ks.length) (by rw [Nat.add_mul] at hj;omega)
            refine ⟨x,v,e1,?_,e3⟩
            rwa [show q*ks.length+(j-q*ks.length)=j by omega] at e2
     obtain ⟨rows,h1,h2,h3⟩:=hrows len (Nat.le_refl _)
     refine ⟨b,o,cap,rows,by rw [h1],⟨by omega,by omega⟩,h2,⟨b,o,c.size,0⟩,rfl,rfl,fun ι => ?_⟩
     have hfl:∀ j x,rows.flatten[j]? = some x->j<len*ks.length:=by
      intro j x hj
      have hj':=(List.getElem?_eq_some_iff.1 hj).1
      have:rows.flatten.length=rows.length*ks.length:=by
       clear h3 hj hj' h1
       induction rows with
       | nil=>simp
       | cons r l ih =>
         rw [List.flatten_cons,List.length_append,ih (fun x hx=>h2 x (List.mem_cons_of_mem _ hx)),← aA (h2 r List.mem_cons_self),List.length_cons,Nat.add_mul]
         omega
      rw [this,h1] at hj'
      exact hj'
     cases uV:rows.flatten with
     | nil=>trivial
     | cons y ys =>
       refine ⟨c,el,fz,hb,rfl,?_,?_,fun h=>by cases h⟩
       · have lN:rows.flatten[ys.length]? ≠ none:=by
          rw [uV]
          simp
         cases hz:rows.flatten[ys.length]? with
         | none=>exact absurd hz lN
         | some z =>
           obtain ⟨x,v,_,e2,_⟩:=h3 ys.length (hfl _ _ hz)
           have:=(Array.getElem?_eq_some_iff.1 e2).1
           simp only [List.length_cons]
           omega
       · intro j x hj
         rw [← uV] at hj
         obtain ⟨x',v,e1,e2,e3⟩:=h3 j (hfl _ _ hj)
         rw [hj] at e1
         cases e1
         exact ⟨v,e2,e3 ι⟩
   · cases hsh
def jY (W:World) (σ:St) (vs:List Value) (ts:List T):Prop :=
 ∃ ι:bV,Rel ι σ.get W/\σ.wf/\(∀ i,σ.size<=i->ι i=none)/\(∀ i,¬ live (σ.get i))/\aT (aK ι) ts vs
theorem jY.nil (W:World):jY W St.empty [] [] :=
 ⟨fun _=>none,⟨(fun i L b h=>by cases h),(fun i j L M h=>by cases h),(fun i n vs h=>by cases h)⟩,St.uH,fun _ _=>rfl,fun _ h=>h,.nil⟩
theorem jY.flat {W:World} {σ:St} {vs:List Value} {ts:List T} (h:jY W σ vs ts) {v:Value} {x:S} (hx:∀ ι,ba ι x v):jY W σ (v::vs) (.v (.s x)::ts):=by
 obtain ⟨ι,h1,h2,h3,h4,h5⟩:=h
 exact ⟨ι,h1,h2,h3,h4,.cons (hx ι) h5⟩
theorem jY.agg {W:World} {σ:St} {vs:List Value} {ts:List T} (h:jY W σ vs ts) {cs:List Value} {xs:List S} (hx:∀ ι,aT (ba ι) xs cs):jY W σ (.agg cs.toArray::vs) (.v (.agg xs)::ts):=by
 obtain ⟨ι,h1,h2,h3,h4,h5⟩:=h
 exact ⟨ι,h1,h2,h3,h4,.cons ⟨cs,rfl,hx ι⟩ h5⟩
theorem jY.slice {W:World} {σ:St} {vs:List Value} {ts:List T} (h:jY W σ vs ts) {b o len cap:Nat} {xs:List S} (hl:len<=cap) (L:Loc) (hb:L.b=b) (ho:L.base=o) (hx:∀ ι,dq ι L W (dI xs)) :
 jY W (σ.push (dI xs)) (.slice (some ⟨b,o,none⟩) len cap::vs) (.v (.s (.sl σ.size 0 len (.known cap)))::ts):=by
 obtain ⟨ι,h1,h2,h3,h4,h5⟩:=h
 have hle:ι.le (fun i=>if i=σ.size then some L else ι i):=by
  intro i M hi
  have:i≠σ.size:=by
   intro e
   rw [h3 i (by omega)] at hi
   cases hi
  simp [this,hi]
 refine ⟨fun i=>if i=σ.size then some L else ι i,⟨?_,?_,?_⟩,St.bu h2 _,?_,?_,.cons ⟨L,by simp,by rw [hb,ho];simp,hl⟩ (cU (fun a c k=>k.mono hle) h5)⟩
 · intro i M c hi hc
   by_cases e:i=σ.size
   · subst e
     simp only [if_true] at hi
     cases hi
     rw [St.aq] at hc
     cases hc
     exact hx _
   · simp only [if_neg e] at hi
     rw [St.aD _ _ e] at hc
     exact (h1.blk i M c hi hc).mono hle
 · intro i j L1 M1 hi hj xR
   exfalso
   by_cases e:i=σ.size
   · subst e
     rw [St.aq] at xR
     exact eV _ xR
   · rw [St.aD _ _ e] at xR
     exact h4 i xR
 · intro i n vs hg
   by_cases e:i=σ.size
   · subst e;exact ⟨L,by simp⟩
   · rw [St.aD _ _ e] at hg
     obtain ⟨M,hM⟩:=h1.dP i n vs hg
     exact ⟨M,by simp [e,hM]⟩
 · intro i hi
   rw [St.size_push] at hi
   simp only [if_neg (show i≠σ.size by omega)]
   exact h3 i (by omega)
 · intro i xR
   by_cases e:i=σ.size
   · subst e
     rw [St.aq] at xR
     exact eV _ xR
   · rw [St.aD _ _ e] at xR
     exact h4 i xR
theorem Et {aa:ak} (hs:aM P aa) {f:FuncId} {ts:List T} {vs:List Value} {σ τ:St} {W:World} {b:Bool} (hi:jY W σ vs ts)
 (h:aa f ts σ=some (B b,τ)):Calls P f vs.toArray W fun e u=>e = .returned (.bool b)/\Kept W u:=by
 obtain ⟨ι,h1,h2,h3,h4,h5⟩:=hi
 exact xx hs h h2 h1 (fun i hi _=>h3 i hi) h5 fun i L _ _=>h4 i
theorem E3 {W u:World} (h:Kept W u) {p:MemPlace} (hp:p.block<W.heap.size):W.sameAt u p:=by
 cases p with
 | cell b o=>exact World.cell?_of_block (w:=W) (h.2.2.2 b hp)
 | map b=>exact h.2.2.2 b hp
theorem vj {W u:World} (hl:laidOutB P=true) (hk:Kept W u) :
 ∀ {ts:List TypeId} {vs:List Value} {ds:List (DataW H)} {p:List MemPlace} {sp:Nat->Bool},DataW.TrodAll enc P W 0 (fun _=>true) true ts vs ds p->(ts.all fun t=>P.readableRec t&&decide (t<P.types.size))=true →
   (∀ x∈p,x.block<W.heap.size)->(∀ x∈p,sp x.block=true)->DataW.TrodAll enc P u 0 sp true ts vs ds p:=by
 intro ts
 induction ts with
 | nil =>
   intro vs ds p sp h _ _ _
   cases vs<;>cases ds<;>first | exact h | exact h.elim
 | cons t ts ih =>
   intro vs ds p sp h hr hlt hsp
   cases vs with
   | nil=>exact h.elim
   | cons v vs=>cases ds with
     | nil=>exact h.elim
     | cons d ds =>
       obtain ⟨q,r,h1,h2,rfl⟩:=h
       simp only [List.all_cons,Bool.and_eq_true,decide_eq_true_eq] at hr
       refine ⟨q,r,WideElems.Trod_stays hl hr.1.1 hr.1.2 h1 (fun x hx => ?_) fun x hx=>hsp x (List.mem_append_left _ hx),ih h2 hr.2 (fun x hx=>hlt x (List.mem_append_right _ hx)) fun x hx=>hsp x (List.mem_append_right _ hx),rfl⟩
       have hx':=hlt x (List.mem_append_left _ hx)
       exact E3 hk hx'
end
end Go.Abs
namespace Go.Abs.F
open Go Go.Abs
theorem aV {f:List T->St->Option (JO×St)} (In:Nat->List T->St->Prop) (Q:JO->St->Prop)
 (step:∀ k v s,In k v s->(∃ v' s' k',f v s=some (.normal v',s')/\k=k'+1/\In k' v' s')\/∃ j s',f v s=some (j,s')/\(∀ v,j ≠ .normal v)/\Q j s') :
 ∀ N k v s,In k v s->k<N->∃ j τ,loops f N v s=some (j,τ)/\Q j τ:=by
 intro N
 induction N with
 | zero=>intro k v s _ h;omega
 | succ N ih =>
   intro k v s hi hk
   rcases step k v s hi with ⟨v',s',k',hf,hk',hi'⟩ | ⟨j,s',hf,hj,hq⟩
   · obtain ⟨j,τ,h,hq⟩:=ih k' v' s' hi' (by omega)
     exact ⟨j,τ,by simp only [loops,hf];exact h,hq⟩
   · refine ⟨j,s',?_,hq⟩
     cases j with
     | normal v=>exact absurd rfl (hj v)
     | exit i v=>simp only [loops,hf]
     | ret r=>simp only [loops,hf]
@[simp] theorem SC (b o len:Nat) (c:Cap):az (Z (.sl b o len c))=some (I .i64 len):=nz rfl
@[simp] theorem OX:az (Z .ay)=some (I .i64 0):=nz rfl
@[simp] theorem PM (i e:Nat):az (Z (.emp i e))=some (I .i64 0):=nz rfl
theorem db {e b o len:Nat} {c:Cap} {k:IntKind} {n:Int} {j:Nat} (hn:n=j) (h:j<len):av e (Z (.sl b o len c)) (I k n)=some (Z (.ptr b (o+j*e))):=by
 subst hn
 simp [av,nP,h]
end Go.Abs.F
namespace Go.Abs
open Go Go.Abs.F
def Bv (a:T) (c:Nat) (rows:List (List S)):Prop:=(a=Z .ay/\rows=[])\/∃ cap,rows.length<=cap/\a=Z (.sl c 0 rows.length (.known cap))
theorem Bv.len {a:T} {c:Nat} {rows:List (List S)} (h:Bv a c rows):az a=some (I .i64 rows.length):=by
 rcases h with ⟨rfl,rfl⟩ | ⟨cap,_,rfl⟩<;>rfl
theorem Bv.index {a:T} {c:Nat} {rows:List (List S)} (h:Bv a c rows) {k:IntKind} {e j:Nat} {n:Int} (hn:n=j) (hj:j<rows.length):av e a (I k n)=some (Z (.ptr c (j*e))):=by
 rcases h with ⟨rfl,rfl⟩ | ⟨cap,_,rfl⟩
 · simp at hj
 · rw [db hn hj,Nat.zero_add]
theorem ur {rows:List (List S)} {e:Nat} (he:∀ r∈rows,r.length=e):∀ (j f:Nat) (r:List S),rows[j]? = some r->f<e->rows.flatten[j*e+f]? = r[f]? := by
 induction rows with
 | nil=>intro j f r h;simp at h
 | cons a l ih =>
   intro j f r h hf
   have ha:=he a List.mem_cons_self
   rw [List.flatten_cons]
   cases j with
   | zero =>
     simp at h
     subst h
     rw [Nat.zero_mul,Nat.zero_add,List.getElem?_append_left (by omega)]
   | succ j =>
     simp at h
     rw [Nat.add_mul,Nat.one_mul,List.getElem?_append_right (by omega),show j*e+e+f-a.length=j*e+f by omega]
     exact ih (fun r hr=>he r (List.mem_cons_of_mem _ hr)) j f r h hf
theorem jY.dead {W:World} {σ:St} {vs:List Value} {ts:List T} (h:jY W σ vs ts):jY W (σ.push .dead) vs ts:=by
 obtain ⟨ι,h1,h2,h3,h4,h5⟩:=h
 have ne:∀ i L,ι i=some L->i≠σ.size:=by
  intro i L hi e
  rw [h3 i (by omega)] at hi
  cases hi
 refine ⟨ι,⟨fun i L b hi hb => ?_,fun i j L M hi hj hl hh => ?_,fun i n vs hg => ?_⟩,St.bu h2 _,fun i hi=>h3 i (by rw [St.size_push] at hi;omega),fun i hl => ?_,h5⟩
 · rw [St.aD _ _ (ne i L hi)] at hb
   exact h1.blk i L b hi hb
 · rw [St.aD _ _ (ne i L hi)] at hl
   exact absurd hl (h4 i)
 · by_cases e:i=σ.size
   · subst e;rw [St.aq] at hg;cases hg
   · rw [St.aD _ _ e] at hg;exact h1.dP i n vs hg
 · by_cases e:i=σ.size
   · subst e
     rw [St.aq] at hl
     exact hl
   · rw [St.aD _ _ e] at hl
     exact h4 i hl
theorem jY.Q7 {H:Type} {enc:TypeId×Value->H} {P:Program} {base b0:Nat} {spare:Nat->Bool} {hd:Bool} {W:World} {σ:St} {vs:List Value} {ts:List T} (h:jY W σ vs ts)
 {r:Reach} {t e:TypeId} {ks:List AK} {n:Nat} {v:Value} {d:DataW H} {ps:List MemPlace} (ht:P.underlying t=some (.slice e)) (hk:mY P n e=some ks) (hc:P.cellsOf e=ks.length)
 (hval:Value.okWide P W r b0 t v) (XV:DataW.Trod enc P W base spare hd t v d ps) :
 ∃ rows:List (List S),(∀ x∈rows,aT KS ks x)/\∃ a,Bv a σ.size rows/\rows.length<9223372036854775808/\jY W (σ.push (dI rows.flatten)) (v::vs) (a::ts):=by
 rcases Cv ht hk hc hval XV with rfl | ⟨b,o,cap,rows,rfl,⟨hl,Io⟩,hr,L,hb,ho,hx⟩
 · exact ⟨[],(fun x hx=>by cases hx),Z .ay,.inl ⟨rfl,rfl⟩,by simp,h.dead.flat (x := .ay) fun _=>rfl⟩
 · exact ⟨rows,hr,_,.inr ⟨cap,hl,rfl⟩,Io,h.slice hl L hb ho hx⟩
theorem KS.int {k:IntKind} {x:S} (h:KS (.int k) x):∃ n,x = .int k n/\(Lit.int k n).wf=true:=by
 cases x<;>first | exact h.elim | (obtain ⟨rfl,hw⟩:=h;exact ⟨_,rfl,hw⟩)
end Go.Abs
namespace Go.Abs.F
open Go Go.Abs
section
variable {X Y:T}
inductive Tw (X Y:T):Option (JO×St)->Option (JO×St)->Prop
 | norm (l:List T) (s:St):Tw X Y (some (.normal (X::l),s)) (some (.normal (Y::l),s))
 | exit (i:Nat) (l:List T) (s:St):Tw X Y (some (.exit i (X::l),s)) (some (.exit i (Y::l),s))
 | same (x:Option (JO×St)):Tw X Y x x
theorem Dm {P:Program} {N:Nat} {dC:ak} {d:Nat} {f:FuncId} {args args':List T} {σ:St} {b:Bool} (h:eS P N dC d f args σ=eS P N dC d f args' σ) (k:zH b (eS P N dC d f args' σ)=true) :
 ∃ τ,eS P N dC d f args σ=some (B b,τ):=by
 rw [h]
 exact vD k
end
theorem aE (y:Int) (h0 : -2 ^ 63<=y) (h1:y<2 ^ 63):IntKind.i64.wrap y=y:=by
 unfold IntKind.wrap
 simp [IntKind.signed,IntKind.bits]
 omega
theorem wrap_u64 (x:Int):0<=IntKind.u64.wrap x:=by
 unfold IntKind.wrap
 simp [IntKind.signed,IntKind.bits]
 omega
theorem cq (x:Int) (h0:0<=x) (h1:x<2 ^ 64):IntKind.u64.wrap x=x:=by
 unfold IntKind.wrap
 simp [IntKind.signed,IntKind.bits]
 omega
section
variable {Q Q':List T->Prop} {X Y:T}
inductive TwQ (Q:List T->Prop) (X Y:T):Option (JO×St)->Option (JO×St)->Prop
 | norm (l:List T) (s:St) (h:Q l):TwQ Q X Y (some (.normal (X::l),s)) (some (.normal (Y::l),s))
 | same (x:Option (JO×St)):TwQ Q X Y x x
end
end Go.Abs.F
namespace Go.Abs
open Go Go.Abs.F Go.RowKit
structure Still (w u:World):Prop where
 os:u.os=w.os
 output:u.output=w.output
 size:w.heap.size<=u.heap.size
 block:∀ k,k<w.heap.size->u.heap[k]? = w.heap[k]?
theorem Still.refl (w:World):Still w w:=⟨rfl,rfl,Nat.le_refl _,fun _ _=>rfl⟩
theorem Still.of {w u:World} (h:Below w.heap.size w u):Still w u:=⟨h.os,h.output,h.size,h.block⟩
theorem Rel.below {ι:bV} {g:Mem} {w u:World} (hR:Rel ι g w) (hb:Still w u):Rel ι g u:=by
 refine ⟨fun i L b hi hb' => ?_,hR.sep,hR.dP⟩
 have hB:=hR.blk i L b hi hb'
 cases b with
 | dead=>trivial
 | cells own vs=>exact hB.congr (hb.block _ (hB.lt trivial))
 | map es=>exact hB.congr (hb.block _ (hB.lt trivial))
 | dP g vs=>exact hB.congr (hb.block _ (hB.lt trivial))
theorem Ext.below {ι:bV} {σ:St} {w u:World} (hb:Still w u):Ext ι σ w ι σ u :=
 ⟨Nat.le_refl _,fun _ _=>rfl,fun _ _ h=>h,fun _ _ h=>h,fun _ _ _=>rfl,fun i L h1 h2=>by omega,hb.os,hb.output,hb.size,fun k hk _=>hb.block k hk⟩
theorem mh {P:Program} {c:ak} (h:∀ f ts σ t τ,c f ts σ=some (t,τ)->τ=σ/\∀ ι w vs,Rel ι σ.get w->aT (aK ι) ts vs →
 Calls P f vs.toArray w fun e u=>∃ v,e = .returned v/\Still w u/\aK ι t v):aM P c:=by
 constructor
 · intro f ts σ t τ hc wf
   obtain ⟨rfl,_⟩:=h f ts σ t τ hc
   exact ⟨wf,Nat.le_refl _⟩
 · intro f ts σ t τ hc wf ι w vs hR hF hA
   obtain ⟨rfl,hk⟩:=h f ts σ t τ hc
   refine (hk ι w vs hR hA).mono ?_
   rintro e u ⟨v,rfl,hb,hT⟩
   exact ⟨ι,v,rfl,Ext.below hb,hR.below hb,hT⟩
def wV (g:Nat) (vs:List S):St:=St.empty.push (.dP g vs)
theorem jY.dP {P:Program} {W:World} {name:String} {k:IntKind} {zs:List Int} {g:Nat} (hg:P.globalNamed name=some g) (h:Lib.TabIs P W name k zs) :
 jY W (wV g (zs.map (S.int k))) [] []:=by
 unfold Lib.TabIs World.var? at h
 rw [hg] at h
 simp only [Option.bind_some] at h
 split at h
 · rename_i cs e fz hb
   cases h
   have Nf:∀ i b,(wV g (zs.map (S.int k))).get i=some b->i=0/\b = .dP g (zs.map (S.int k)):=by
    intro i b hi
    unfold wV at hi
    by_cases e:i=0
    · subst e
      have:=St.aq St.empty (.dP g (zs.map (S.int k)))
      rw [show St.empty.size=0 from rfl] at this
      rw [this] at hi
      cases hi
      exact ⟨rfl,rfl⟩
    · rw [St.aD _ _ (by simpa using e)] at hi
      cases hi
   refine ⟨fun i=>if i=0 then some ⟨g,0,0,0⟩ else none,⟨fun i L b hi hb' => ?_,fun i j L M hi hj hl => ?_,fun i n vs hi => ?_⟩,St.bu St.uH _,fun i hi => ?_,fun i hi => ?_,.nil⟩
   · obtain ⟨rfl,rfl⟩:=Nf i b hb'
     simp only [if_true,Option.some.injEq] at hi
     subst hi
     refine ⟨rfl,_,_,_,hb,by simp,fun j x hx => ?_⟩
     rw [List.getElem?_map,Option.map_eq_some_iff] at hx
     obtain ⟨n,hn,rfl⟩:=hx
     exact ⟨.int k n,by simp [hn],rfl⟩
   · exfalso
     cases iE:(wV g (zs.map (S.int k))).get i with
     | none=>rw [iE] at hl;exact hl
     | some b=>obtain ⟨_,rfl⟩:=Nf i b iE;rw [iE] at hl;exact hl
   · obtain ⟨rfl,_⟩:=Nf i _ hi
     exact ⟨_,rfl⟩
   · have:i≠0:=by
      have:(wV g (zs.map (S.int k))).size=1:=rfl
      omega
     simp [this]
   · cases iE:(wV g (zs.map (S.int k))).get i with
     | none=>rw [iE] at hi;exact hi
     | some b=>obtain ⟨_,rfl⟩:=Nf i b iE;rw [iE] at hi;exact hi
 · cases h
end Go.Abs
namespace Go.Abs.F
open Go Go.Abs
end Go.Abs.F
namespace Go.Abs
open Go Go.Abs.F
set_option linter.unusedVariables false
def Gr (s t:St):Prop:=t.wf/\s.size<=t.size/\∀ b,b<s.size->t.get b=s.get b
theorem Gr.refl {s:St} (wf:s.wf):Gr s s:=⟨wf,Nat.le_refl _,fun _ _=>rfl⟩
theorem Gr.push {s:St} (wf:s.wf) (b:dV):Gr s (s.push b):=⟨St.bu wf _,by simp,fun c hc=>St.aD _ _ (by omega)⟩
theorem Gr.trans {a b c:St} (h:Gr a b) (k:Gr b c):Gr a c:=⟨k.1,Nat.le_trans h.2.1 k.2.1,fun x hx=>by rw [k.2.2 x (Nat.lt_of_lt_of_le hx h.2.1),h.2.2 x hx]⟩
theorem Gr.wf {s t:St} (h:Gr s t):t.wf:=h.1
theorem Gr.le {s t:St} (h:Gr s t):s.size<=t.size:=h.2.1
theorem Gr.get {s t:St} (h:Gr s t) {b:Nat} {x:dV} (hb:s.get b=some x) (wf:s.wf):t.get b=some x:=by rw [h.2.2 b (wf.lt hb),hb]
def own:S->Option Nat
 | .emp c _=>some c
 | .sl c _ _ _=>some c
 | _=>none
def Vf (e:Nat):S->Prop
 | .sl _ _ n (.known c)=>n<=c
 | .sl _ _ _ (.grown g)=>g=e
 | .emp _ g=>g=e
 | _=>True
structure Rd (e:Nat) (s:St) (x:S) (n:Nat) (vs:List S):Prop where
 len:vs.length=n*e
 rd:(n=0/\(x = .ay\/(∃ c g,x = .emp c g)\/∃ c o cap,x = .sl c o 0 cap))\/∃ c o cap w rows,x = .sl c o n cap/\s.get c=some (.cells w rows)/\o+n*e<=rows.length/\(rows.drop o).take (n*e)=vs
 cap:Vf e x
structure Ow (e:Nat) (s:St) (x:S) (n:Nat) (vs:List S):Prop where
 len:vs.length=n*e
 ow:(x = .ay/\n=0)\/(∃ c rows,x = .emp c e/\n=0/\s.get c=some (.cells true rows))\/∃ c rows cap,x = .sl c 0 n cap/\(cap = .grown e\/cap = .known n)/\s.get c=some (.cells true rows)/\n*e<=rows.length/\rows.take (n*e)=vs
section
variable {e n m:Nat} {s t:St} {x y:S} {vs ws:List S}
theorem Rd.nil (e:Nat) (s:St):Rd e s .ay 0 []:=⟨by simp,.inl ⟨rfl,.inl rfl⟩,trivial⟩
theorem Ow.nil (e:Nat) (s:St):Ow e s .ay 0 []:=⟨by simp,.inl ⟨rfl,rfl⟩⟩
theorem Ow.rd (h:Ow e s x n vs):Rd e s x n vs:=by
 refine ⟨h.len,?_,?_⟩
 · rcases h.ow with ⟨rfl,rfl⟩ | ⟨c,rows,rfl,rfl,_⟩ | ⟨c,rows,cap,rfl,hc,h1,h2,h3⟩
   · exact .inl ⟨rfl,.inl rfl⟩
   · exact .inl ⟨rfl,.inr (.inl ⟨c,e,rfl⟩)⟩
   · exact .inr ⟨c,0,_,true,rows,rfl,h1,by omega,by simpa using h3⟩
 · rcases h.ow with ⟨rfl,rfl⟩ | ⟨c,rows,rfl,rfl,_⟩ | ⟨c,rows,cap,rfl,hc,h1,h2,h3⟩
   · trivial
   · exact rfl
   · rcases hc with rfl | rfl
     · exact rfl
     · exact Nat.le_refl _
theorem Rd.lens (h:Rd e s x n vs):az (Z x)=some (I .i64 n):=by
 rcases h.rd with ⟨rfl,rfl | ⟨c,g,rfl⟩ | ⟨c,o,cap,rfl⟩⟩ | ⟨c,o,cap,w,rows,rfl,_⟩<;>rfl
theorem Rd.src (h:Rd e s x n vs):eY e (Z x) s.get=some (n,vs):=by
 have hl:=h.len
 rcases h.rd with ⟨rfl,rfl | ⟨c,g,rfl⟩ | ⟨c,o,cap,rfl⟩⟩ | ⟨c,o,cap,w,rows,rfl,h1,h2,h3⟩
 · have:vs=[]:=List.eq_nil_of_length_eq_zero (by simpa using hl)
   subst this;rfl
 · have:vs=[]:=List.eq_nil_of_length_eq_zero (by simpa using hl)
   subst this;rfl
 · have:vs=[]:=List.eq_nil_of_length_eq_zero (by simpa using hl)
   subst this;simp [eY]
 · by_cases hz:n=0
   · subst hz
     have:vs=[]:=List.eq_nil_of_length_eq_zero (by simpa using hl)
     subst this;simp [eY]
   · simp only [eY,if_neg hz,h1,if_pos h2,h3]
theorem Rd.keep (h:Rd e s x n vs) (hk:∀ c,own x=some c->t.get c=s.get c):Rd e t x n vs:=by
 refine ⟨h.len,?_,h.cap⟩
 rcases h.rd with h | ⟨c,o,cap,w,rows,rfl,h1,h2,h3⟩
 · exact .inl h
 · exact .inr ⟨c,o,cap,w,rows,rfl,by rw [hk c rfl];exact h1,h2,h3⟩
theorem Ow.keep (h:Ow e s x n vs) (hk:∀ c,own x=some c->t.get c=s.get c):Ow e t x n vs:=by
 refine ⟨h.len,?_⟩
 rcases h.ow with h | ⟨c,rows,rfl,rfl,h1⟩ | ⟨c,rows,cap,rfl,hc,h1,h2,h3⟩
 · exact .inl h
 · exact .inr (.inl ⟨c,rows,rfl,rfl,by rw [hk c rfl];exact h1⟩)
 · exact .inr (.inr ⟨c,rows,cap,rfl,hc,by rw [hk c rfl];exact h1,h2,h3⟩)
theorem Ow.lt (h:Ow e s x n vs) (wf:s.wf) {c:Nat} (hc:own x=some c):c<s.size:=by
 rcases h.ow with ⟨rfl,rfl⟩ | ⟨c',rows,rfl,rfl,h1⟩ | ⟨c',rows,cap,rfl,_,h1,h2,h3⟩
 · cases hc
 · cases hc;exact wf.lt h1
 · cases hc;exact wf.lt h1
theorem Rd.gr (h:Rd e s x n vs) (hx:∀ c,own x=some c->c<s.size) (g:Gr s t):Rd e t x n vs:=h.keep fun c hc=>g.2.2 c (hx c hc)
theorem Ow.gr (h:Ow e s x n vs) (wf:s.wf) (g:Gr s t):Ow e t x n vs:=h.keep fun c hc=>g.2.2 c (h.lt wf hc)
theorem yy (rows:List S) (o:Nat):aO rows o []=rows:=rfl
theorem Ow.append {by_:Nat} (h:Ow e s x n vs) (wf:s.wf) (he:0<e) (hs:eY e (Z y) s.get=some (m,ws)) (vR:ws.length=m*e) (hl:(n+m)*by_<=140737488355328) :
 ∃ x' t,aJ e by_ (Z x) (Z y) s=some (Z x',t)/\t.wf/\s.size<=t.size/\Ow e t x' (n+m) (vs++ws)/\(∀ b,b<s.size->own x≠some b->t.get b=s.get b)/\(own x'=none\/own x'=own x\/∃ c,own x'=some c/\s.size<=c):=by
 have hne:e≠0:=by omega
 have hlv:=h.len
 have hlen:(vs++ws).length=(n+m)*e:=by rw [List.length_append,hlv,vR,Nat.add_mul]
 have hm:m*by_<=140737488355328:=Nat.le_trans (Nat.mul_le_mul_right _ (by omega)) hl
 rcases h.ow with ⟨rfl,rfl⟩ | ⟨c,rows,rfl,rfl,h1⟩ | ⟨c,rows,cap,rfl,hc,h1,h2,h3⟩
 · have hv:vs=[]:=List.eq_nil_of_length_eq_zero (by simpa using hlv)
   subst hv
   by_cases hz:m=0
   · subst hz
     have hw:ws=[]:=List.eq_nil_of_length_eq_zero (by simpa using vR)
     subst hw
     refine ⟨.ay,s,?_,wf,Nat.le_refl _,⟨by simp,.inl ⟨rfl,rfl⟩⟩,fun _ _ _=>rfl,.inl rfl⟩
     unfold aJ
     rw [hs]
     dsimp only
     rw [if_neg hne,if_pos rfl]
   · refine ⟨.sl s.size 0 m (.grown e),s.push (.cells true ws),?_,St.bu wf _,by simp,⟨hlen,.inr (.inr ⟨s.size,ws,_,by rw [Nat.zero_add],.inl rfl,St.aq _ _,by rw [Nat.zero_add,vR];exact Nat.le_refl _,by rw [Nat.zero_add,List.nil_append];exact List.take_of_length_le (by omega)⟩)⟩,fun b hb _=>St.aD _ _ (by omega),.inr (.inr ⟨_,rfl,Nat.le_refl _⟩)⟩
     unfold aJ
     rw [hs]
     dsimp only
     rw [if_neg hne,if_neg hz,if_pos hm]
 · have jy:=wf.lt h1
   have hv:vs=[]:=List.eq_nil_of_length_eq_zero (by simpa using hlv)
   subst hv
   have hB:e=e/\m*by_<=140737488355328:=⟨rfl,hm⟩
   by_cases hz:m=0
   · subst hz
     have hw:ws=[]:=List.eq_nil_of_length_eq_zero (by simpa using vR)
     subst hw
     refine ⟨.emp c e,s,?_,wf,Nat.le_refl _,⟨by simp,.inr (.inl ⟨c,rows,rfl,rfl,h1⟩)⟩,fun _ _ _=>rfl,.inr (.inl rfl)⟩
     unfold aJ
     rw [hs]
     dsimp only
     rw [if_neg hne,if_pos hB,if_pos rfl]
   · have hg:((s.set c .dead).push (.cells true ws)).get s.size=some (.cells true ws):=by
      have:=St.aq (s.set c .dead) (.cells true ws)
      rwa [St.size_set] at this
     refine ⟨.sl s.size 0 m (.grown e),(s.set c .dead).push (.cells true ws),?_,St.bu (St.wf_set wf jy _) _,by simp,⟨hlen,.inr (.inr ⟨s.size,ws,_,by rw [Nat.zero_add],.inl rfl,hg,by rw [Nat.zero_add,vR];exact Nat.le_refl _,by rw [Nat.zero_add,List.nil_append];exact List.take_of_length_le (by omega)⟩)⟩,fun b hb hbc => ?_,.inr (.inr ⟨_,rfl,Nat.le_refl _⟩)⟩
     · unfold aJ
       rw [hs]
       dsimp only
       rw [if_neg hne,if_pos hB,if_neg hz,h1]
     · have:b≠c:=fun e=>hbc (by rw [e];rfl)
       rw [St.aD _ _ (by rw [St.size_set];omega),St.aj _ _ this]
 · have jy:=wf.lt h1
   have big:∀ q:St,q.size=s.size->(q.push (.cells true (vs++ws))).get s.size=some (.cells true (vs++ws)):=fun q hq=>by
    have:=St.aq q (.cells true (vs++ws))
    rwa [hq] at this
   have JM:∀ q:St,q.size=s.size->Ow e (q.push (.cells true (vs++ws))) (.sl s.size 0 (n+m) (.grown e)) (n+m) (vs++ws):=fun q hq =>
    ⟨hlen,.inr (.inr ⟨s.size,vs++ws,_,rfl,.inl rfl,big q hq,by omega,List.take_of_length_le (by omega)⟩)⟩
   have Wn:0+n*e<=rows.length:=by omega
   rcases hc with rfl | rfl
   · have hB:e=e/\(n+m)*by_<=140737488355328:=⟨rfl,hl⟩
     by_cases hz:m=0
     · subst hz
       have hw:ws=[]:=List.eq_nil_of_length_eq_zero (by simpa using vR)
       subst hw
       refine ⟨.sl c 0 n (.grown e),s,?_,wf,Nat.le_refl _,⟨by simpa using hlv,.inr (.inr ⟨c,rows,_,rfl,.inl rfl,h1,h2,by simpa using h3⟩)⟩,fun _ _ _=>rfl,.inr (.inl rfl)⟩
       unfold aJ
       rw [hs]
       dsimp only
       rw [if_neg hne,if_pos hB,if_pos rfl]
     · by_cases hf:0+(n+m)*e<=rows.length
       · have aak:(n+m)*e=n*e+m*e:=Nat.add_mul _ _ _
         refine ⟨.sl c 0 (n+m) (.grown e),s.set c (.cells true (aO rows (0+n*e) ws)),?_,St.wf_set wf jy _,by simp,⟨hlen,.inr (.inr ⟨c,_,_,rfl,.inl rfl,St.ar _ _ _,?_,?_⟩)⟩,fun b hb hbc => ?_,.inr (.inl rfl)⟩
         · unfold aJ
           rw [hs]
           dsimp only
           rw [if_neg hne,if_pos hB,if_neg hz,h1]
           dsimp only
           rw [if_pos hf]
         · rw [bZ _ _ _ (by omega)]
           simp
           omega
         · rw [bZ _ _ _ (by omega),show 0+n*e=n*e by omega,h3]
           rw [List.take_append_of_le_length (by omega)]
           exact List.take_of_length_le (by omega)
         · have:b≠c:=fun e=>hbc (by rw [e];rfl)
           exact St.aj _ _ this
       · refine ⟨.sl s.size 0 (n+m) (.grown e),(s.set c .dead).push (.cells true (vs++ws)),?_,St.bu (St.wf_set wf jy _) _,by simp,JM _ (by simp),fun b hb hbc => ?_,.inr (.inr ⟨_,rfl,Nat.le_refl _⟩)⟩
         · unfold aJ
           rw [hs]
           dsimp only
           rw [if_neg hne,if_pos hB,if_neg hz,h1]
           dsimp only
           rw [if_neg hf,if_pos Wn,List.drop_zero,h3]
         · have:b≠c:=fun e=>hbc (by rw [e];rfl)
           rw [St.aD _ _ (by rw [St.size_set];omega),St.aj _ _ this]
   · by_cases hz:m=0
     · subst hz
       have hw:ws=[]:=List.eq_nil_of_length_eq_zero (by simpa using vR)
       subst hw
       have hq:true=true/\0+n*e+0*e<=rows.length:=⟨rfl,by omega⟩
       refine ⟨.sl c 0 n (.known n),s.set c (.cells true rows),?_,St.wf_set wf jy _,by simp,⟨by simpa using hlv,.inr (.inr ⟨c,rows,_,rfl,.inr rfl,St.ar _ _ _,h2,by simpa using h3⟩)⟩,fun b hb hbc => ?_,.inr (.inl rfl)⟩
       · unfold aJ
         rw [hs]
         dsimp only
         rw [if_neg hne,if_pos hl,h1]
         dsimp only
         rw [if_pos (by omega),if_pos hq,yy]
         rfl
       · have:b≠c:=fun e=>hbc (by rw [e];rfl)
         exact St.aj _ _ this
     · refine ⟨.sl s.size 0 (n+m) (.grown e),s.push (.cells true (vs++ws)),?_,St.bu wf _,by simp,JM _ rfl,fun b hb hbc=>St.aD _ _ (by omega),.inr (.inr ⟨_,rfl,Nat.le_refl _⟩)⟩
       unfold aJ
       rw [hs]
       dsimp only
       rw [if_neg hne,if_pos hl,h1]
       dsimp only
       rw [if_neg (by omega),if_pos Wn,List.drop_zero,h3]
structure Fr (e:Nat) (s0 s:St) (x:S) (n:Nat) (vs:List S):Prop where
 gr:Gr s0 s
 ow:Ow e s x n vs
 new:∀ c,own x=some c->s0.size<=c/\c<s.size
theorem Fr.nil (e:Nat) {s:St} (wf:s.wf):Fr e s s .ay 0 []:=⟨Gr.refl wf,Ow.nil e s,fun c hc=>by cases hc⟩
theorem Fr.rd {s0:St} (h:Fr e s0 s x n vs):Rd e s x n vs:=h.ow.rd
theorem Fr.kY {s0 t:St} (h:Fr e s0 s x n vs) (g:Gr s t):Fr e s0 t x n vs :=
 ⟨h.gr.trans g,h.ow.gr h.gr.1 g,fun c hc=>⟨(h.new c hc).1,Nat.lt_of_lt_of_le (h.new c hc).2 g.2.1⟩⟩
theorem Fr.from {s0 s1:St} (g:Gr s0 s1) (h:Fr e s1 s x n vs):Fr e s0 s x n vs :=
 ⟨g.trans h.gr,h.ow,fun c hc=>⟨Nat.le_trans g.2.1 (h.new c hc).1,(h.new c hc).2⟩⟩
theorem Fr.nS {s0:St} {by_:Nat} (h:Fr e s0 s x n vs) (he:0<e) (hs:eY e (Z y) s.get=some (m,ws)) (vR:ws.length=m*e) (hl:(n+m)*by_<=140737488355328) :
 ∃ x' t,aJ e by_ (Z x) (Z y) s=some (Z x',t)/\Fr e s0 t x' (n+m) (vs++ws)/\s.size<=t.size/\(∀ b,b<s.size->own x≠some b->t.get b=s.get b)/\(own x'=none\/own x'=own x\/∃ c,own x'=some c/\s.size<=c):=by
 obtain ⟨⟨wf,hz,hk⟩,hb,ho⟩:=h
 obtain ⟨x',t,e1,q1,q2,q3,q4,q5⟩:=hb.append wf he hs vR hl
 refine ⟨x',t,e1,⟨⟨q1,by omega,fun b hb' => ?_⟩,q3,fun c hc => ?_⟩,q2,q4,q5⟩
 · rw [q4 b (by omega) (fun e=>by have:=ho b e;omega)]
   exact hk b hb'
 · have hlt:=q3.lt q1 hc
   rcases q5 with e | e | ⟨c',e,gO⟩
   · rw [e] at hc;cases hc
   · rw [e] at hc
     exact ⟨(ho c hc).1,hlt⟩
   · rw [e] at hc;cases hc;exact ⟨by omega,hlt⟩
theorem Fr.append {s0:St} {by_:Nat} (h:Fr e s0 s x n vs) (he:0<e) (hs:eY e (Z y) s.get=some (m,ws)) (vR:ws.length=m*e) (hl:(n+m)*by_<=140737488355328) :
 ∃ x' t,aJ e by_ (Z x) (Z y) s=some (Z x',t)/\Fr e s0 t x' (n+m) (vs++ws)/\s.size<=t.size/\∀ b,b<s.size->own x≠some b->t.get b=s.get b:=by
 obtain ⟨x',t,a,b,c,d,_⟩:=h.nS he hs vR hl
 exact ⟨x',t,a,b,c,d⟩
theorem Fr.lit (e:Nat) {s:St} (wf:s.wf) {n:Nat} {vs:List S} (hv:vs.length=n*e):Fr e s (s.push (.cells true vs)) (.sl s.size 0 n (.known n)) n vs :=
 ⟨Gr.push wf _,⟨hv,.inr (.inr ⟨s.size,vs,_,rfl,.inr rfl,St.aq _ _,by omega,List.take_of_length_le (by omega)⟩)⟩,fun c hc=>by cases hc;exact ⟨Nat.le_refl _,by simp⟩⟩
theorem Rd.at (h:Rd e s x n vs) {j:Nat} {i:Int} (hi:i=j) (hj:j<n):∃ c p,av e (Z x) (I .i64 i)=some (Z (.ptr c p))/\(∀ f v,f<e->vs[j*e+f]? = some v->ab (Z (.ptr c (p+f))) s.get=some (Z v)) ∧
 aH e (Z (.ptr c p)) s.get=some (.v (.agg ((vs.drop (j*e)).take e))):=by
 rcases h.rd with ⟨rfl,_⟩ | ⟨b,o,cap,w,rows,rfl,h1,h2,h3⟩
 · omega
 · have hje:j*e+e<=n*e:=by
    have:(j+1)*e<=n*e:=Nat.mul_le_mul_right _ hj
    rwa [Nat.add_mul,Nat.one_mul] at this
   refine ⟨b,o+j*e,db hi hj,fun f v hf hv=>ai h1 ?_,?_⟩
   · rw [← h3,List.getElem?_take_of_lt (by omega),List.getElem?_drop] at hv
     rw [Nat.add_assoc]
     exact hv
   · have h4:o+j*e+e<=rows.length:=by omega
     have h5:(vs.drop (j*e)).take e=(rows.drop (o+j*e)).take e:=by
      rw [← h3,List.drop_take,List.take_take,List.drop_drop,Nat.min_eq_left (by omega)]
     simp only [aH,h1,if_pos h4,h5]
theorem Rd.yJ (h:Rd 1 s x n vs) {j:Nat} {i:Int} {v:S} (hi:i=j) (hv:vs[j]? = some v):∃ p,av 1 (Z x) (I .i64 i)=some p/\ab p s.get=some (Z v):=by
 have hj:j<n:=by
  have:=(List.getElem?_eq_some_iff.1 hv).1
  have:=h.len
  omega
 obtain ⟨c,p,h1,h2,_⟩:=h.at hi hj
 exact ⟨_,h1,by have:=h2 0 v (by omega) (by simpa using hv);simpa using this⟩
theorem dZ {len cap k:Nat} (h:k<=cap):da len cap none (some (I .i64 k)) none=some (0,k,cap):=by
 have e:nj (I .i64 k) cap=some k:=by
  have h0:(0:Int)<=(k:Int):=by omega
  have h1:(k:Int)<=(cap:Int):=by omega
  simp [nj,h]
 delta da
 dsimp only
 rw [e]
theorem sM {len cap lo hi:Nat} (h:lo<=hi) (k:hi<=cap):da len cap (some (I .i64 lo)) (some (I .i64 hi)) none=some (lo,hi,cap):=by
 have e:nj (I .i64 hi) cap=some hi:=by
  have h0:(0:Int)<=(hi:Int):=by omega
  have h1:(hi:Int)<=(cap:Int):=by omega
  simp [nj,k]
 have e2:nj (I .i64 lo) hi=some lo:=by
  have h1:(lo:Int)<=(hi:Int):=by omega
  simp [nj,h]
 delta da
 dsimp only
 rw [e]
 dsimp only
 rw [e2]
theorem dr {len cap lo:Nat} (h:lo<=len) (k:len<=cap):da len cap (some (I .i64 lo)) none none=some (lo,len,cap):=by
 have e2:nj (I .i64 lo) len=some lo:=by
  have h1:(lo:Int)<=(len:Int):=by omega
  simp [nj,h]
 delta da
 dsimp only
 rw [e2]
theorem Rd.Cz (h:Rd e s x n vs) {lo hi:Nat} {l r:Option T} (hb:∀ len cap,n<=cap->len=n->da len cap l r none=some (lo,hi,cap)) (h1:lo<=hi) (h2:hi<=n) :
 ∃ y,aB e (Z x) l r none=some (Z y)/\Rd e s y (hi-lo) ((vs.drop (lo*e)).take ((hi-lo)*e))/\(own y=none\/own y=own x):=by
 have hlv:=h.len
 have hmul:lo*e+(hi-lo)*e<=n*e:=by
  rw [← Nat.add_mul]
  exact Nat.mul_le_mul_right _ (by omega)
 have hl2:((vs.drop (lo*e)).take ((hi-lo)*e)).length=(hi-lo)*e:=by rw [List.length_take,List.length_drop];omega
 have hcap:=h.cap
 rcases h.rd with ⟨rfl,rfl | ⟨c,g,rfl⟩ | ⟨c,o,cap,rfl⟩⟩ | ⟨c,o,cap,w,rows,rfl,a1,a2,a3⟩
 · obtain rfl:hi=0:=by omega
   obtain rfl:lo=0:=by omega
   refine ⟨.ay,?_,⟨hl2,.inl ⟨rfl,.inl rfl⟩,trivial⟩,.inl rfl⟩
   have:=hb 0 0 (Nat.le_refl _) rfl
   simp only [aB,this]
 · obtain rfl:hi=0:=by omega
   obtain rfl:lo=0:=by omega
   have hg:g=e:=hcap
   refine ⟨.emp c e,?_,⟨hl2,.inl ⟨rfl,.inr (.inl ⟨c,e,rfl⟩)⟩,rfl⟩,.inr rfl⟩
   have:=hb 0 0 (Nat.le_refl _) rfl
   simp only [aB,this,if_pos hg]
 · obtain rfl:hi=0:=by omega
   obtain rfl:lo=0:=by omega
   cases cap with
   | known k =>
     refine ⟨.sl c (if k=0 then o else o+0*e) 0 (.known (k-0)),?_,⟨hl2,.inl ⟨rfl,.inr (.inr ⟨_,_,_,rfl⟩)⟩,Nat.zero_le _⟩,.inr rfl⟩
     have:=hb 0 k (Nat.zero_le _) rfl
     simp only [aB,this]
   | grown g =>
     have hg:g=e:=hcap
     refine ⟨.emp c e,?_,⟨hl2,.inl ⟨rfl,.inr (.inl ⟨c,e,rfl⟩)⟩,rfl⟩,.inr rfl⟩
     have:=hb 0 0 (Nat.le_refl _) rfl
     simp only [aB,this,if_pos hg]
     rfl
 · have lh:∀ o',o'=o+lo*e->(rows.drop o').take ((hi-lo)*e)=(vs.drop (lo*e)).take ((hi-lo)*e):=fun o' e'=>by
    rw [e',← a3,List.drop_take,List.take_take,List.drop_drop,Nat.min_eq_left (by omega)]
   cases cap with
   | known k =>
     have hk:n<=k:=hcap
     have Rm:=hb n k hk rfl
     by_cases eZ:k=lo
     · have hz:hi-lo=0:=by omega
       refine ⟨.sl c o (hi-lo) (.known (k-lo)),?_,⟨hl2,.inl ⟨hz,.inr (.inr ⟨c,o,_,by rw [hz]⟩)⟩,by show hi-lo<=k-lo;omega⟩,.inr rfl⟩
       simp only [aB,Rm,if_pos eZ]
     · refine ⟨.sl c (o+lo*e) (hi-lo) (.known (k-lo)),?_,⟨hl2,.inr ⟨c,_,_,w,rows,rfl,a1,by omega,lh _ rfl⟩,by show hi-lo<=k-lo;omega⟩,.inr rfl⟩
       simp only [aB,Rm,if_neg eZ]
   | grown g =>
     have hg:g=e:=hcap
     have Rm:=hb n n (Nat.le_refl _) rfl
     by_cases hl:lo<n
     · refine ⟨.sl c (o+lo*e) (hi-lo) (.grown e),?_,⟨hl2,.inr ⟨c,_,_,w,rows,rfl,a1,by omega,lh _ rfl⟩,rfl⟩,.inr rfl⟩
       simp only [aB,Rm,if_pos hg,if_pos hl]
     · have hz:hi-lo=0:=by omega
       refine ⟨.emp c e,?_,⟨hl2,.inl ⟨hz,.inr (.inl ⟨c,e,rfl⟩)⟩,rfl⟩,.inr rfl⟩
       simp only [aB,Rm,if_pos hg,if_neg hl]
theorem Rd.piece (h:Rd e s x n vs) {lo hi:Nat} (h1:lo<=hi) (h2:hi<=n) :
 ∃ y,aB e (Z x) (some (I .i64 lo)) (some (I .i64 hi)) none=some (Z y)/\Rd e s y (hi-lo) ((vs.drop (lo*e)).take ((hi-lo)*e))/\(own y=none\/own y=own x) :=
 h.Cz (fun len cap hc hl=>sM h1 (by omega)) h1 h2
theorem Rd.upto (h:Rd e s x n vs) {hi:Nat} (h2:hi<=n) :
 ∃ y,aB e (Z x) none (some (I .i64 hi)) none=some (Z y)/\Rd e s y hi (vs.take (hi*e))/\(own y=none\/own y=own x):=by
 obtain ⟨y,a,b,c⟩:=h.Cz (lo:=0) (hi:=hi) (l:=none) (r:=some (I .i64 hi)) (fun len cap hc hl=>dZ (by omega)) (Nat.zero_le _) h2
 exact ⟨y,a,by simpa using b,c⟩
theorem Rd.Ct (h:Rd e s x n vs) {lo:Nat} (h2:lo<=n) :
 ∃ y,aB e (Z x) (some (I .i64 lo)) none none=some (Z y)/\Rd e s y (n-lo) (vs.drop (lo*e))/\(own y=none\/own y=own x):=by
 obtain ⟨y,a,b,c⟩:=h.Cz (lo:=lo) (hi:=n) (l:=some (I .i64 lo)) (r:=none) (fun len cap hc hl=>by subst hl;exact dr h2 hc) h2 (Nat.le_refl _)
 refine ⟨y,a,?_,c⟩
 have hl:=h.len
 have:(vs.drop (lo*e)).take ((n-lo)*e)=vs.drop (lo*e):=List.take_of_length_le (by rw [List.length_drop,Nat.sub_mul];omega)
 rwa [this] at b
end
section
variable {α:Type} {enc:α->List S} {e:Nat}
def cells (enc:α->List S) (l:List α):List S:=(l.map enc).flatten
@[simp] theorem SI:cells enc []=[]:=rfl
@[simp] theorem dJ (a:α) (l:List α):cells enc (a::l)=enc a++cells enc l:=by simp [cells]
theorem fD (l r:List α):cells enc (l++r)=cells enc l++cells enc r:=by simp [cells]
theorem dS (he:∀ a,(enc a).length=e):∀ l:List α,(cells enc l).length=l.length*e
 | []=>by simp
 | a::l=>by rw [dJ,List.length_append,he,dS he l,List.length_cons,Nat.add_mul,Nat.one_mul,Nat.add_comm]
theorem ke (he:∀ a,(enc a).length=e):∀ (k:Nat) (l:List α),(cells enc l).drop (k*e)=cells enc (l.drop k)
 | 0,l=>by simp
 | k+1,[]=>by simp
 | k+1,a::l=>by
   have h1:(enc a++cells enc l).drop e=cells enc l:=List.drop_left' (he a)
   rw [dJ,List.drop_succ_cons,← ke he k l]
   conv=>rhs;rw [← h1]
   rw [List.drop_drop,Nat.add_mul,Nat.one_mul,Nat.add_comm]
theorem nu (he:∀ a,(enc a).length=e):∀ (k:Nat) (l:List α),(cells enc l).take (k*e)=cells enc (l.take k)
 | 0,l=>by simp
 | k+1,[]=>by simp
 | k+1,a::l=>by
   rw [dJ,List.take_succ_cons,dJ,← nu he k l,Nat.add_mul,Nat.one_mul]
   have h1:(enc a).length=e:=he a
   rw [List.take_append,List.take_of_length_le (by omega)]
   congr 2
   omega
theorem jL (he:∀ a,(enc a).length=e) {l:List α} {j:Nat} {a:α} (h:l[j]? = some a):((cells enc l).drop (j*e)).take e=enc a:=by
 rw [ke he,List.drop_eq_getElem_cons (List.getElem?_eq_some_iff.1 h).1,dJ,(List.getElem?_eq_some_iff.1 h).2]
 rw [List.take_append_of_le_length (by rw [he];exact Nat.le_refl _)]
 exact List.take_of_length_le (by rw [he];exact Nat.le_refl _)
theorem gf (he:∀ a,(enc a).length=e) {l:List α} {j f:Nat} {a:α} (h:l[j]? = some a) (hf:f<e):(cells enc l)[j*e+f]? = (enc a)[f]? := by
 rw [← jL he h,List.getElem?_take_of_lt hf,List.getElem?_drop]
end
def U (bs:List UInt8):List S:=bs.map fun b => .int .u8 b.toNat
@[simp] theorem qz (bs:List UInt8):(U bs).length=bs.length:=by simp [U]
theorem sL (a b:List UInt8):U (a++b)=U a++U b:=by simp [U]
theorem Tt (bs:List UInt8) (j:Nat):(U bs)[j]? = (bs[j]?).map fun b=>S.int .u8 b.toNat:=by simp [U]
theorem j6 (bs:List UInt8) (n:Nat):(U bs).take n=U (bs.take n):=by simp [U,List.map_take]
theorem xf (bs:List UInt8) (n:Nat):(U bs).drop n=U (bs.drop n):=by simp [U,List.map_drop]
abbrev RB (s:St) (x:S) (bs:List UInt8):Prop:=Rd 1 s x bs.length (U bs)
abbrev FB (s0 s:St) (x:S) (bs:List UInt8):Prop:=Fr 1 s0 s x bs.length (U bs)
theorem jw (n a:Nat) (h:a<2 ^ n):(BitVec.ofInt n (a:Int)).toNat=a:=by
 rw [BitVec.toNat_ofInt]
 have:((a:Int)%((2 ^ n:Nat):Int))=a:=Int.emod_eq_of_lt (by omega) (by omega)
 rw [this]
 rfl
theorem fP (x:Nat):IntKind.u8.wrap x=((x%256:Nat):Int):=by
 unfold IntKind.wrap
 simp [IntKind.signed,IntKind.bits]
theorem wrap32 (x:Nat):IntKind.u32.wrap x=((x%4294967296:Nat):Int):=by
 unfold IntKind.wrap
 simp [IntKind.signed,IntKind.bits]
theorem wrap64 (x:Nat) (h:x<2 ^ 64):IntKind.u64.wrap x=(x:Int):=cq _ (by omega) (by omega)
theorem rF (x:Nat) (h:x<2 ^ 63):IntKind.i64.wrap x=(x:Int):=aE _ (by omega) (by omega)
theorem PO (a b:Nat) (ha:a<256) (hb:b<256):af .and (I .u8 a) (I .u8 b)=some (I .u8 ((a &&& b:Nat))):=by
 have h:a &&& b<256:=Nat.lt_of_le_of_lt Nat.and_le_left ha
 show some (I .u8 (IntKind.u8.wrap ((BitVec.ofInt 8 a &&& BitVec.ofInt 8 b).toNat:Nat)))=_
 rw [BitVec.toNat_and,jw 8 a ha,jw 8 b hb,fP,Nat.mod_eq_of_lt h]
theorem Vk (a b:Nat) (ha:a<256) (hb:b<256):af .or (I .u8 a) (I .u8 b)=some (I .u8 ((a ||| b:Nat))):=by
 have h:a ||| b<2 ^ 8:=Nat.or_lt_two_pow ha hb
 show some (I .u8 (IntKind.u8.wrap ((BitVec.ofInt 8 a ||| BitVec.ofInt 8 b).toNat:Nat)))=_
 rw [BitVec.toNat_or,jw 8 a ha,jw 8 b hb,fP,Nat.mod_eq_of_lt h]
theorem K9 (a b:Nat) (ha:a<2 ^ 64) (hb:b<2 ^ 64):af .and (I .u64 a) (I .u64 b)=some (I .u64 ((a &&& b:Nat))):=by
 have h:a &&& b<2 ^ 64:=Nat.lt_of_le_of_lt Nat.and_le_left ha
 show some (I .u64 (IntKind.u64.wrap ((BitVec.ofInt 64 a &&& BitVec.ofInt 64 b).toNat:Nat)))=_
 rw [BitVec.toNat_and,jw 64 a ha,jw 64 b hb,wrap64 _ h]
theorem JK (a b:Nat) (ha:a<2 ^ 64) (hb:b<2 ^ 64):af .or (I .u64 a) (I .u64 b)=some (I .u64 ((a ||| b:Nat))):=by
 have h:a ||| b<2 ^ 64:=Nat.or_lt_two_pow ha hb
 show some (I .u64 (IntKind.u64.wrap ((BitVec.ofInt 64 a ||| BitVec.ofInt 64 b).toNat:Nat)))=_
 rw [BitVec.toNat_or,jw 64 a ha,jw 64 b hb,wrap64 _ h]
theorem yA (a b:Nat) (h:a*2 ^ b<2 ^ 64) (hb:b<64):af .shl (I .u64 a) (I .u64 b)=some (I .u64 ((a*2 ^ b:Nat))):=by
 have e:min b 64=b:=by omega
 have h0:¬ ((b:Int)<0):=by omega
 have e2:(a:Int)*2 ^ b=((a*2 ^ b:Nat):Int):=by push_cast;rfl
 simp only [af,nq,if_neg h0,Int.toNat_natCast,IntKind.bits,e,e2,wrap64 _ h]
theorem eX (k:IntKind) (a b:Nat) (hb:b<=k.bits):af .shr (I k a) (I .u64 b)=some (I k ((a / 2 ^ b:Nat))):=by
 have e:min b k.bits=b:=by omega
 have h0:¬ ((b:Int)<0):=by omega
 have e2:(a:Int).fdiv (2 ^ b)=((a / 2 ^ b:Nat):Int):=by
  have:(2:Int) ^ b=((2 ^ b:Nat):Int):=by push_cast;rfl
  rw [this,Int.fdiv_eq_ediv_of_nonneg _ (Int.natCast_nonneg _)]
  exact (Int.natCast_ediv _ _).symm
 simp only [af,nq,if_neg h0,Int.toNat_natCast,e,e2]
def bT (n:Nat):List UInt8->Nat
 | []=>n
 | c::r=>bT ((n*257+c.toNat+1)%4294967291) r
def mV:Nat->Nat->List UInt8
 | 0,n=>[UInt8.ofNat n]
 | f+1,n=>if 128<=n then UInt8.ofNat (n%128+128)::mV f (n / 128) else [UInt8.ofNat n]
def aP (n:Nat):List UInt8:=mV 10 n
def four (n:Nat):List UInt8:=[UInt8.ofNat n,UInt8.ofNat (n / 256),UInt8.ofNat (n / 65536),UInt8.ofNat (n / 16777216)]
def ot (bs:List UInt8) (at_:Nat):Nat->Nat->Nat->Option (Nat×Nat)
 | 0,_,_=>none
 | f+1,k,n=>match bs[at_+k]? with
   | none=>none
   | some c =>
     if k=9/\1<c.toNat then none else
     if 128<=c.toNat then ot bs at_ f (k+1) (n ||| (c.toNat%128)*2 ^ (7*k)) else
     if 0<k/\c.toNat=0 then none else some (n ||| (c.toNat%128)*2 ^ (7*k),at_+k+1)
def jW (bs:List UInt8) (at_:Nat):Option (Nat×Nat):=if at_<=bs.length then ot bs at_ 10 0 0 else none
theorem Ng {bs:List UInt8} {at_:Nat}:∀ (f k n:Nat) {r:Nat×Nat},ot bs at_ f k n=some r->at_+k<r.2/\r.2<=bs.length:=by
 intro f
 induction f with
 | zero=>intro k n r h;cases h
 | succ f ih =>
   intro k n r h
   unfold ot at h
   split at h
   · cases h
   · rename_i c hc
     have hlt:=(List.getElem?_eq_some_iff.1 hc).1
     split at h
     · cases h
     · split at h
       · have:=ih _ _ h
         omega
       · split at h
         · cases h
         · cases h
           exact ⟨by show at_+k<at_+k+1;omega,by show at_+k+1<=bs.length;omega⟩
theorem sI {bs:List UInt8} {at_ v e:Nat} (h:jW bs at_=some (v,e)):at_<e/\e<=bs.length:=by
 unfold jW at h
 split at h
 · have:=Ng _ _ _ h
   exact ⟨by simpa using this.1,this.2⟩
 · cases h
theorem PG.step (n c:Nat) (hn:n<4294967291) (hc:c<256) (u:St):(af .mul (I .u64 n) (I .u64 257)=some (I .u64 ((n*257:Nat))))/\af .add (I .u64 ((n*257:Nat))) (I .u64 c)=some (I .u64 ((n*257+c:Nat))) ∧
 af .add (I .u64 ((n*257+c:Nat))) (I .u64 1)=some (I .u64 ((n*257+c+1:Nat)))/\af .rem (I .u64 ((n*257+c+1:Nat))) (I .u64 4294967291)=some (I .u64 (((n*257+c+1)%4294967291:Nat))):=by
 refine ⟨?_,?_,?_,?_⟩
 · rw [N5,show ((n:Int)*257)=((n*257:Nat):Int) by omega,wrap64 _ (by omega)]
 · rw [dH,show (((n*257:Nat):Int)+c)=((n*257+c:Nat):Int) by omega,wrap64 _ (by omega)]
 · rw [dH,show (((n*257+c:Nat):Int)+1)=((n*257+c+1:Nat):Int) by omega,wrap64 _ (by omega)]
 · have e:((n*257+c+1:Nat):Int).tmod 4294967291=(((n*257+c+1)%4294967291:Nat):Int):=by
    rw [Int.tmod_eq_emod_of_nonneg (by omega)]
    omega
   have hP:(4294967291:Int)≠0:=by decide
   simp only [sx _ _ _ hP,e]
theorem kG:∀ (bs:List UInt8) (n:Nat),n<4294967291->bT n bs<4294967291:=by
 intro bs
 induction bs with
 | nil=>intro n h;exact h
 | cons c r ih=>intro n h;exact ih _ (Nat.mod_lt _ (by decide))
theorem JT:∀ (f n:Nat),(mV f n).length<=f+1:=by
 intro f
 induction f with
 | zero=>intro n;simp [mV]
 | succ f ih =>
   intro n
   unfold mV
   split
   · have:=ih (n / 128)
     simp
     omega
   · simp
theorem bF (n:Nat):(aP n).length<=11:=JT 10 n
theorem Vj:∀ m:Nat,m<256->(m ||| 128)=m%128+128:=by decide +kernel
theorem ed (n:Nat):(UInt8.ofNat n).toNat=n%256:=by simp
theorem NY (s:St) (c:Nat):aL s (aS 1 (aG [.int .u8 0] [(0,1,I .u8 c)]))=some (Z (.sl s.size 0 1 (.known 1)),s.push (.cells true [.int .u8 c])):=by
 simp [aL,aS,aG,V.cells,aO]
theorem R1 (s:St) (a b c d:Nat):aL s (aS 4 (aG [.int .u8 0,.int .u8 0,.int .u8 0,.int .u8 0] [(0,1,I .u8 a),(1,1,I .u8 b),(2,1,I .u8 c),(3,1,I .u8 d)])) =
 some (Z (.sl s.size 0 4 (.known 4)),s.push (.cells true [.int .u8 a,.int .u8 b,.int .u8 c,.int .u8 d])):=by
 simp [aL,aS,aG,V.cells,aO]
section
variable {s t:St} {x y:S} {bs cs:List UInt8}
theorem RB.tU (h:RB s x bs):az (Z x)=some (I .i64 bs.length):=h.lens
theorem RB.En (h:RB s x bs) {j:Nat} {n:Int} {c:UInt8} (hn:n=j) (hc:bs[j]? = some c):∃ p,av 1 (Z x) (I .i64 n)=some p/\ab p s.get=some (I .u8 c.toNat) :=
 Rd.yJ h hn (by rw [Tt,hc];rfl)
theorem wW:∀ bs:List UInt8,kH (U bs)=some bs
 | []=>rfl
 | b::r=>by
   have ih:=wW r
   show kH (.int .u8 b.toNat::U r)=_
   simp [kH,ih]
theorem RB.str (h:RB s x bs):bR (Z x) s.get=some (Z (.str bs)):=by
 have Oe:bs.length=0->bs=[]:=fun e=>List.eq_nil_of_length_eq_zero e
 rcases h.rd with ⟨h0,rfl | ⟨c,g,rfl⟩ | ⟨c,o,cap,rfl⟩⟩ | ⟨c,o,cap,w,vs,rfl,h1,h2,h3⟩
 · rw [Oe h0];rfl
 · rw [Oe h0];rfl
 · rw [Oe h0];simp [bR]
 · by_cases hz:bs.length=0
   · rw [Oe hz];simp [bR]
   · rw [Nat.mul_one] at h2 h3
     simp only [bR,if_neg hz,h1,if_pos h2,h3,wW]
theorem FB.app {s0:St} (h:FB s0 s x bs) (hy:RB s y cs) (hl:bs.length+cs.length<=1000000) :
 ∃ x' t,aJ 1 1 (Z x) (Z y) s=some (Z x',t)/\FB s0 t x' (bs++cs)/\s.size<=t.size/\∀ b,b<s.size->own x≠some b->t.get b=s.get b:=by
 obtain ⟨x',t,e,f,g,k⟩:=h.append (by_:=1) (by omega) hy.src hy.len (by omega)
 exact ⟨x',t,e,by unfold FB;rw [sL,List.length_append];exact f,g,k⟩
theorem FB.PQ {s0:St} (h:FB s0 s x bs) (hy:RB s y cs) (hl:bs.length+cs.length<=1000000) :
 ∃ x' t,aJ 1 1 (Z x) (Z y) s=some (Z x',t)/\FB s0 t x' (bs++cs)/\s.size<=t.size/\(∀ b,b<s.size->own x≠some b->t.get b=s.get b)/\(own x'=none\/own x'=own x\/∃ c,own x'=some c/\s.size<=c):=by
 obtain ⟨x',t,e,f,g,k,n⟩:=h.nS (by_:=1) (by omega) hy.src hy.len (by omega)
 exact ⟨x',t,e,by unfold FB;rw [sL,List.length_append];exact f,g,k,n⟩
theorem CS (bs:List UInt8):fM bs=U bs:=rfl
theorem FB.PR {s0:St} (h:FB s0 s x bs) (hl:bs.length+cs.length<=1000000) :
 ∃ x' t,aJ 1 1 (Z x) (Z (.str cs)) s=some (Z x',t)/\FB s0 t x' (bs++cs)/\s.size<=t.size/\∀ b,b<s.size->own x≠some b->t.get b=s.get b:=by
 obtain ⟨x',t,e,f,g,k⟩:=h.append (by_:=1) (y := .str cs) (m:=cs.length) (ws:=U cs) (by omega) (by simp [eY,CS]) (by simp) (by omega)
 exact ⟨x',t,e,by unfold FB;rw [sL,List.length_append];exact f,g,k⟩
theorem FB.lit {s0:St} (h:FB s0 s x bs) (hl:bs.length+cs.length<=1000000) :
 ∃ x' t,aJ 1 1 (Z x) (Z (.sl s.size 0 cs.length (.known cs.length))) (s.push (.cells true (U cs)))=some (Z x',t)/\FB s0 t x' (bs++cs)/\s.size<=t.size/\∀ b,b<s.size->own x≠some b->t.get b=s.get b:=by
 have l:=Fr.lit 1 h.gr.1 (n:=cs.length) (vs:=U cs) (by simp)
 obtain ⟨x',t,e,f,hz,k⟩:=FB.app (Fr.kY h l.gr) (cs:=cs) l.rd hl
 exact ⟨x',t,e,f,Nat.le_trans l.gr.2.1 hz,fun b hb uU=>by rw [k b (Nat.lt_of_lt_of_le hb l.gr.2.1) uU];exact l.gr.2.2 b hb⟩
end
theorem NX (bs:List UInt8):bN (Z (.str bs))=some (I .i64 bs.length):=rfl
theorem xo {bs:List UInt8} {j:Nat} {n:Int} {c:UInt8} (hn:n=j) (hc:bs[j]? = some c):dG (Z (.str bs)) (I .i64 n)=some (I .u8 c.toNat):=by
 subst hn
 have hj:=(List.getElem?_eq_some_iff.1 hc).1
 have e:nP (I .i64 (j:Int)) bs.length=some j:=by
  simp [nP,hj]
 show (match nP (I .i64 (j:Int)) bs.length with
  | some j=>match bs[j]? with
    | some b=>some (I .u8 b.toNat)
    | none=>none
  | none=>none)=_
 rw [e]
 dsimp only
 rw [hc]
theorem gE (a b:List UInt8) (h:a.length+b.length<=100000):af .add (Z (.str a)) (Z (.str b))=some (Z (.str (a++b))):=by
 have:¬ ((a.length+b.length:Nat):Int)>IntKind.i64.max:=by
  show ¬ _>(9223372036854775807:Int)
  omega
 simp only [af,Ej,if_neg this]
end Go.Abs
namespace Go.Abs.F
open Go Go.Abs
set_option linter.unusedVariables false
section
variable {s:St} {a:T} {c e:Nat} {rows:List (List S)}
theorem qH:∀ {rows:List (List S)},(∀ r∈rows,r.length=e)->rows.flatten.length=rows.length*e
 | [],_=>by simp
 | r::l,h=>by
   have h1:=qH (rows:=l) fun x hx=>h x (by simp [hx])
   have h2:=h r (by simp)
   rw [List.flatten_cons,List.length_append,h1,h2,List.length_cons,Nat.add_mul,Nat.one_mul]
   omega
theorem Sj (ha:Bv a c rows) (he:0<e) (hl:∀ r∈rows,r.length=e) (hb:s.get c=some (dI rows.flatten)):∃ x,a=Z x/\Rd e s x rows.length rows.flatten/\∀ d,own x=some d->d=c:=by
 have hf:=qH hl
 rcases ha with ⟨rfl,rfl⟩ | ⟨cap,hc,rfl⟩
 · exact ⟨.ay,rfl,Rd.nil e s,fun d hd=>by cases hd⟩
 · refine ⟨.sl c 0 rows.length (.known cap),rfl,⟨hf,?_,hc⟩,fun d hd=>by cases hd;rfl⟩
   cases rows with
   | nil=>exact .inl ⟨rfl,.inr (.inr ⟨c,0,_,rfl⟩)⟩
   | cons r l =>
     have h1:(r::l).flatten≠[]:=fun h0=>by
      have:=congrArg List.length h0
      rw [hf,List.length_cons,Nat.add_mul] at this
      simp at this
      omega
     have h2:dI (r::l).flatten = .cells false (r::l).flatten:=by
      cases hh:(r::l).flatten with
      | nil=>exact absurd hh h1
      | cons _ _=>rfl
     rw [h2] at hb
     exact .inr ⟨c,0,_,false,_,rfl,hb,by rw [hf];omega,by rw [List.drop_zero,List.take_of_length_le (by rw [hf];omega)]⟩
theorem qq {k:IntKind}:∀ {rows:List (List S)},(∀ r∈rows,aT KS [.int k] r)->∃ is:List Int,rows=is.map (fun i=>[.int k i])/\∀ i∈is,(Lit.int k i).wf=true
 | [],_=>⟨[],rfl,fun i h=>by cases h⟩
 | r::l,h=>by
   obtain ⟨is,h1,h2⟩:=qq (rows:=l) fun x hx=>h x (by simp [hx])
   have h3:=h r (by simp)
   cases h3 with
   | cons p q =>
     cases q
     obtain ⟨n,rfl,hn⟩:=KS.int p
     exact ⟨n::is,by rw [h1];rfl,fun i hi=>by
      rcases List.mem_cons.1 hi with rfl | hi
      · exact hn
      · exact h2 i hi⟩
theorem lJ (f:Int->S):∀ is:List Int,(is.map fun i=>[f i]).flatten=is.map f
 | []=>rfl
 | i::l=>by rw [List.map_cons,List.flatten_cons,lJ f l];rfl
theorem Si {k:IntKind} (ha:Bv a c rows) (hr:∀ r∈rows,aT KS [.int k] r) (hb:s.get c=some (dI rows.flatten)):∃ x,∃ is:List Int,a=Z x/\Rd 1 s x is.length (is.map (S.int k))/\(∀ d,own x=some d->d=c)/\∀ i∈is,(Lit.int k i).wf=true:=by
 obtain ⟨is,h1,h2⟩:=qq hr
 obtain ⟨x,rfl,h3,h4⟩:=Sj ha (e:=1) (by decide) (fun r h=>by have:=hr r h;cases this with | cons p q=>cases q;rfl) hb
 refine ⟨x,is,rfl,?_,h4,h2⟩
 rw [h1,lJ,List.length_map] at h3
 exact h3
end
end Go.Abs.F
namespace Go.Abs
open Go Go.Abs.F
set_option linter.unusedVariables false
abbrev Bs:=List UInt8
def nM (c:UInt8):Bs->Nat->Int
 | [],_ => -1
 | b::r,k=>match Nat.beq b.toNat c.toNat with
   | true=>(k:Int)
   | false=>nM c r (k+1)
def eP (c:UInt8):Bs->Nat
 | []=>0
 | b::r=>match Nat.beq b.toNat c.toNat with
   | true=>eP c r+1
   | false=>eP c r
def tf (b:UInt8):List Bs->List Bs
 | []=>[[b]]
 | h::t=>(b::h)::t
def bJ (c:UInt8):Bs->List Bs
 | []=>[[]]
 | b::r=>match Nat.beq b.toNat c.toNat with
   | true=>[]::bJ c r
   | false=>tf b (bJ c r)
def gX (sep:Bs):List Bs->Bs
 | []=>[]
 | [x]=>x
 | x::y::r=>x++sep++gX sep (y::r)
theorem I9 (c b:UInt8) (r:Bs) (k:Nat):nM c (b::r) k=match Nat.beq b.toNat c.toNat with
 | true=>(k:Int)
 | false=>nM c r (k+1):=rfl
theorem Ev (c b:UInt8) (r:Bs):eP c (b::r)=match Nat.beq b.toNat c.toNat with
 | true=>eP c r+1
 | false=>eP c r:=rfl
theorem AM (c b:UInt8) (r:Bs):bJ c (b::r)=match Nat.beq b.toNat c.toNat with
 | true=>[]::bJ c r
 | false=>tf b (bJ c r):=rfl
theorem sW {b c:UInt8}:Nat.beq b.toNat c.toNat=true↔b=c:=by
 constructor
 · intro h;exact UInt8.toNat.inj (Nat.eq_of_beq_eq_true h)
 · rintro rfl;exact Nat.beq_refl _
theorem qD {b c:UInt8}:Nat.beq b.toNat c.toNat=false↔b≠c:=by
 constructor
 · intro h e;rw [sW.2 e] at h;cases h
 · intro h;cases hb:Nat.beq b.toNat c.toNat with
   | true=>exact absurd (sW.1 hb) h
   | false=>rfl
theorem Ja (c:UInt8):∀ (l:Bs) (k:Nat),nM c l k = -1\/(k:Int)<=nM c l k
 | [],_ => .inl rfl
 | b::r,k=>by
   unfold nM
   cases Nat.beq b.toNat c.toNat with
   | true=>exact .inr (Int.le_refl _)
   | false=>rcases Ja c r (k+1) with h | h
            · exact .inl h
            · exact .inr (by show (k:Int)<=nM c r (k+1);omega)
theorem gj (c:UInt8):∀ (l:Bs) (k:Nat),nM c l k=if nM c l 0 = -1 then -1 else nM c l 0+k
 | [],k=>rfl
 | b::r,k=>by
   unfold nM
   cases hb:Nat.beq b.toNat c.toNat with
   | true=>simp
   | false =>
     dsimp only
     rw [gj c r (k+1),gj c r (0+1)]
     split
     · simp
     · rename_i h
       have:=(Ja c r 0).resolve_left h
       rw [if_neg (by omega)]
       omega
theorem DF (c:UInt8):∀ l:Bs,Lib.indexByte l c=nM c l 0
 | []=>rfl
 | b::r=>by
   unfold Lib.indexByte nM
   rw [DF c r]
   by_cases h:b=c
   · subst h;simp
   · have hb:=qD.2 h
     have iE:(b == c)=false:=by simpa using h
     rw [iE,hb]
     dsimp only
     rw [gj c r (0+1)]
     by_cases h1:nM c r 0 = -1
     · simp [h1]
     · have:(nM c r 0 == -1)=false:=by simpa using h1
       simp [this,h1]
theorem zo (c:UInt8):∀ l:Bs,Lib.countByte l c=eP c l
 | []=>rfl
 | b::r=>by
   have ih:=zo c r
   unfold Lib.countByte at ih ⊢
   unfold eP
   by_cases h:b=c
   · subst h;rw [sW.2 rfl,List.count_cons_self,ih]
   · rw [qD.2 h,List.count_cons_of_ne (by simpa using h),ih]
theorem mq (c:UInt8):∀ l:Bs,eP c l<=l.length
 | []=>Nat.le_refl _
 | b::r=>by
   have:=mq c r
   unfold eP
   cases Nat.beq b.toNat c.toNat<;>simp<;>omega
theorem gx (c:UInt8):∀ l:Bs,(bJ c l).length=eP c l+1
 | []=>rfl
 | b::r=>by
   have ih:=gx c r
   unfold bJ eP
   cases Nat.beq b.toNat c.toNat with
   | true=>simp [ih]
   | false =>
     dsimp only
     cases hs:bJ c r with
     | nil=>rw [hs] at ih;simp at ih
     | cons h t=>rw [hs] at ih;simpa [tf] using ih
theorem rz (c:UInt8):∀ l:Bs,(nM c l 0 = -1/\eP c l=0/\bJ c l=[l]) ∨
 ∃ m,m<l.length/\nM c l 0=m/\bJ c l=l.take m::bJ c (l.drop (m+1))/\eP c l=eP c (l.drop (m+1))+1
 | [] => .inl ⟨rfl,rfl,rfl⟩
 | b::r=>by
   rw [I9,Ev,AM]
   cases hb:Nat.beq b.toNat c.toNat with
   | true=>exact .inr ⟨0,by simp,rfl,by simp,by simp⟩
   | false =>
     dsimp only
     rcases rz c r with ⟨h1,h2,h3⟩ | ⟨m,h0,h1,h2,h3⟩
     · exact .inl ⟨by rw [gj c r (0+1),h1];rfl,h2,by rw [h3];rfl⟩
     · refine .inr ⟨m+1,by simp;omega,?_,?_,h3⟩
       · rw [gj c r (0+1),h1,if_neg (by omega)]
         omega
       · rw [h2];rfl
theorem Ey (c:UInt8) (l:Bs):(nM c l 0 = -1/\l.takeWhile (fun b => !Nat.beq b.toNat c.toNat)=l)\/∃ m,m<l.length/\nM c l 0=m/\l.takeWhile (fun b => !Nat.beq b.toNat c.toNat)=l.take m:=by
 induction l with
 | nil=>exact .inl ⟨rfl,rfl⟩
 | cons b r ih =>
   unfold nM
   cases hb:Nat.beq b.toNat c.toNat with
   | true=>exact .inr ⟨0,by simp,rfl,by simp [hb]⟩
   | false =>
     dsimp only
     rcases ih with ⟨h1,h2⟩ | ⟨m,h0,h1,h2⟩
     · exact .inl ⟨by rw [gj c r (0+1),h1];rfl,by rw [List.takeWhile_cons];simp [hb,h2]⟩
     · refine .inr ⟨m+1,by simp;omega,?_,by rw [List.takeWhile_cons];simp [hb,h2]⟩
       rw [gj c r (0+1),h1,if_neg (by omega)]
       omega
theorem nJ (c:UInt8):∀ l:Bs,((bJ c l).map List.length).sum<=l.length
 | []=>by simp [bJ]
 | b::r=>by
   have ih:=nJ c r
   unfold bJ
   cases Nat.beq b.toNat c.toNat with
   | true=>simp;omega
   | false =>
     dsimp only
     cases hs:bJ c r with
     | nil=>simp [tf]
     | cons h t=>rw [hs] at ih;simp [tf] at ih ⊢;omega
theorem tV:∀ (L:List Bs) (x:Bs),x∈L->x.length<=(L.map List.length).sum
 | [],x,h=>by cases h
 | y::r,x,h=>by
   rcases List.mem_cons.1 h with rfl | h
   · simp
   · have:=tV r x h
     simp
     omega
theorem CQ (c:UInt8) (l x:Bs) (h:x∈bJ c l):x.length<=l.length:=by
 have h1:=nJ c l
 have h2:x.length<=((bJ c l).map List.length).sum:=tV _ _ h
 omega
theorem qc (sep:Bs):∀ l:List Bs,Lib.join l sep=gX sep l
 | []=>rfl
 | [x]=>by rw [Lib.join_one];rfl
 | x::y::r=>by
   rw [show gX sep (x::y::r)=x++sep++gX sep (y::r) from rfl,← qc sep (y::r)]
   simp [Lib.join,List.intercalate,List.intersperse]
def cT:List Bs->Nat
 | []=>0
 | x::r=>x.length+cT r
theorem vU (sep:Bs):∀ l:List Bs,(gX sep l).length<=cT l+l.length*sep.length
 | []=>by simp [gX,cT]
 | [x]=>by simp [gX,cT]
 | x::y::r=>by
   have:=vU sep (y::r)
   simp only [gX,cT,List.length_append,List.length_cons] at this ⊢
   rw [Nat.add_mul]
   omega
theorem oY:∀ l:List Bs,cT l=(l.map List.length).sum
 | []=>rfl
 | x::r=>by simp [cT,oY r]
def cg (l:List Bs):List S:=l.map S.str
@[simp] theorem Km (l:List Bs):(cg l).length=l.length:=by simp [cg]
theorem jr (a b:List Bs):cg (a++b)=cg a++cg b:=by simp [cg]
theorem FM (l:List Bs) (n:Nat):(cg l).take n=cg (l.take n):=by simp [cg,List.map_take]
theorem AU (l:List Bs) (j:Nat):(cg l)[j]? = (l[j]?).map S.str:=by simp [cg]
abbrev RT (s:St) (x:S) (l:List Bs):Prop:=Rd 1 s x l.length (cg l)
abbrev FT (s0 s:St) (x:S) (l:List Bs):Prop:=Fr 1 s0 s x l.length (cg l)
theorem RT.VT {s:St} {x:S} {l:List Bs} (h:RT s x l) {j:Nat} {n:Int} {c:Bs} (hn:n=j) (hc:l[j]? = some c):∃ p,av 1 (Z x) (I .i64 n)=some p/\ab p s.get=some (Z (.str c)) :=
 Rd.yJ h hn (by rw [AU,hc];rfl)
theorem FT.lit {s0 s:St} {x:S} {l:List Bs} {c:Bs} (h:FT s0 s x l) (hl:l.length<=1000000) :
 ∃ x' t,(∃ s',aL s (aS 1 (aG [.str []] [(0,1,Z (.str c))]))=some (Z (.sl s.size 0 1 (.known 1)),s')/\aJ 1 16 (Z x) (Z (.sl s.size 0 1 (.known 1))) s'=some (Z x',t))/\FT s0 t x' (l++[c])/\s.size<=t.size/\∀ b,b<s.size->own x≠some b->t.get b=s.get b:=by
 have L:=Fr.lit 1 h.gr.1 (n:=1) (vs:=cg [c]) (by simp)
 obtain ⟨x',t,e,f,hz,k⟩:=(h.kY L.gr).append (by_:=16) (by omega) L.rd.src (by simp) (by omega)
 refine ⟨x',t,⟨s.push (.cells true (cg [c])),by simp [aL,aS,aG,V.cells,aO,cg],e⟩,?_,Nat.le_trans L.gr.2.1 hz,fun b hb uU=>by rw [k b (Nat.lt_of_lt_of_le hb L.gr.2.1) uU];exact L.gr.2.2 b hb⟩
 unfold FT
 rw [jr,List.length_append]
 exact f
@[simp] theorem Wd (a b:Bs):af .eql (Z (.str a)) (Z (.str b))=some (B (decide (a=b))):=by simp [af,Ej]
@[simp] theorem WZ (a b:Bs):af .neq (Z (.str a)) (Z (.str b))=some (B (!decide (a=b))):=by simp [af,Ej]
@[simp] theorem OY (a:Bs):bN (Z (.str a))=some (I .i64 a.length):=nz rfl
theorem j8 {l:Bs} {m:Nat} {n:Int} (hn:n=m) (h:m<=l.length):bD (Z (.str l)) none (some (I .i64 n)) none=some (Z (.str (l.take m))):=by
 subst hn
 simp only [bD]
 rw [dZ h]
 simp
theorem j9 {l:Bs} {m:Nat} {n:Int} (hn:n=m) (h:m<=l.length):bD (Z (.str l)) (some (I .i64 n)) none none=some (Z (.str (l.drop m))):=by
 subst hn
 simp only [bD]
 rw [dr h (Nat.le_refl _)]
 have:l.drop m=(l.drop m).take (l.length-m):=(List.take_of_length_le (by simp)).symm
 simp
end Go.Abs
namespace Go.Abs.F
open Go Go.Abs
def Jb (fs:List Nat) (g:Nat):ak:=fun f ts σ=>match fs.contains f with
 | true=>match ts with
   | [.v (.s (.str l)),.v (.s (.str [c]))]=>some (I .i64 (nM c l 0),σ)
   | _=>none
 | false=>match Nat.beq f g with
   | true=>match ts with
     | [.v (.s (.str l)),.v (.s (.str [c]))]=>some (I .i64 (eP c l:Nat),σ)
     | _=>none
   | false=>none
theorem EZ {P:Program} {fs:List Nat} {g:Nat}
 (hf:∀ f∈fs,∀ (s:ByteArray) (c:UInt8) (w:World),Calls P f #[.string s,.string ⟨#[c]⟩] w fun e w'=>e = .returned (.int .i64 (Lib.indexByte s.data.toList c))/\w'=w)
 (hg:∀ (s:ByteArray) (c:UInt8) (w:World),Calls P g #[.string s,.string ⟨#[c]⟩] w fun e w'=>e = .returned (.int .i64 (Lib.countByte s.data.toList c))/\w'=w):aM P (Jb fs g):=by
 refine mh fun f ts σ t τ h => ?_
 have key:∀ {ι:bV} {vs:List Value} {l:Bs} {c:UInt8},aT (aK ι) [.v (.s (.str l)),.v (.s (.str [c]))] vs->∃ s:ByteArray,s.data.toList=l/\vs=[.string s,.string ⟨#[c]⟩]:=by
  intro ι vs l c hA
  cases hA with
  | cons a b=>cases b with
    | cons a' b' =>
      cases b'
      obtain ⟨s,rfl,hs⟩:=a
      obtain ⟨s',rfl,Pm⟩:=a'
      refine ⟨s,hs,?_⟩
      obtain ⟨⟨q⟩⟩:=s'
      simp at Pm
      subst Pm
      rfl
 unfold Jb at h
 split at h
 · rename_i hc
   split at h
   · rename_i l c
     cases h
     refine ⟨rfl,fun ι w vs hR hA => ?_⟩
     obtain ⟨s,rfl,rfl⟩:=key hA
     refine (hf f (by simpa using hc) s c w).mono ?_
     rintro e u ⟨rfl,rfl⟩
     exact ⟨_,rfl,Still.refl _,by rw [DF];rfl⟩
   · cases h
 · split at h
   · rename_i hb
     split at h
     · rename_i l c
       cases h
       have:=Nat.eq_of_beq_eq_true hb
       subst this
       refine ⟨rfl,fun ι w vs hR hA => ?_⟩
       obtain ⟨s,rfl,rfl⟩:=key hA
       refine (hg s c w).mono ?_
       rintro e u ⟨rfl,rfl⟩
       exact ⟨_,rfl,Still.refl _,by rw [zo];rfl⟩
     · cases h
   · cases h
theorem RS {fs:List Nat} {g f:Nat} {l:Bs} {c:UInt8} {σ:St} (h:fs.contains f=true):Jb fs g f [Z (.str l),Z (.str [c])] σ=some (I .i64 (nM c l 0),σ):=by
 simp only [Jb,h]
theorem NQ {fs:List Nat} {g:Nat} {l:Bs} {c:UInt8} {σ:St} (h:fs.contains g=false):Jb fs g g [Z (.str l),Z (.str [c])] σ=some (I .i64 (eP c l:Nat),σ):=by
 simp only [Jb,h,Nat.beq_refl]
def mj:List S->Option (List Bs)
 | []=>some []
 | .str l::r=>match mj r with
   | some k=>some (l::k)
   | none=>none
 | _::_=>none
theorem rA:∀ l:List Bs,mj (cg l)=some l
 | []=>rfl
 | x::r=>by
   have ih:=rA r
   show mj (.str x::cg r)=_
   simp only [mj,ih]
theorem wR:∀ {vs:List S} {l:List Bs},mj vs=some l->vs=cg l
 | [],l,h=>by cases h;rfl
 | v::r,l,h=>by
   cases v with
   | str x =>
     unfold mj at h
     split at h
     · rename_i k hk
       cases h
       rw [wR hk]
       rfl
     · cases h
   | _=>simp [mj] at h
theorem qR {α:Type} {P:Nat->α->Prop}:∀ n:Nat,(∀ j,j<n->∃ x,P j x)->∃ xs:List α,xs.length=n/\∀ (j:Nat) x,xs[j]? = some x->P j x
 | 0,_=>⟨[],rfl,fun j x h=>by simp at h⟩
 | n+1,h=>by
   obtain ⟨xs,h1,h2⟩:=qR n fun j hj=>h j (by omega)
   obtain ⟨y,hy⟩:=h n (by omega)
   refine ⟨xs++[y],by simp [h1],fun j x hj => ?_⟩
   by_cases hjn:j<n
   · exact h2 j x (by rwa [List.getElem?_append_left (by omega)] at hj)
   · rw [List.getElem?_append_right (by omega)] at hj
     have:j=n:=by
      have:=(List.getElem?_eq_some_iff.1 hj).1
      simp at this
      omega
     subst this
     rw [h1,Nat.sub_self] at hj
     simp at hj
     subst hj
     exact hy
theorem GL {α β:Type} {R:α->β->Prop} {a b:α} {us:List β} (h:aT R [a,b] us):∃ x y,us=[x,y]/\R a x/\R b y:=by
 cases h with
 | cons p q=>cases q with
   | cons p' q'=>cases q';exact ⟨_,_,rfl,p,p'⟩
def tT (g:Nat):ak:=fun f ts σ=>match Nat.beq f g with
 | false=>none
 | true=>match ts with
   | [x,.v (.s (.str sep))]=>match eY 1 x σ.get with
     | some (n,vs)=>match mj vs with
       | some l=>match x with
         | .v (.s (.str _))=>none
         | _=>match Nat.ble (cT l+l.length*sep.length) 1000000&&Nat.ble l.length 1000000 with
           | true=>some (Z (.str (gX sep l)),σ)
           | false=>none
       | none=>none
     | none=>none
   | _=>none
theorem zW {P:Program} {g:Nat}
 (h0:∀ (a:Option Addr) (c:Nat) (sep:ByteArray) (w:World),Calls P g #[.slice a 0 c,.string sep] w fun e w'=>e = .returned (.string ⟨#[]⟩)/\w'=w)
 (h1:∀ (bk o c:Nat) (xs:List ByteArray) (sep:ByteArray) (w:World),(∀ (j:Nat) x,xs[j]? = some x->w.cell? ⟨bk,o+j,none⟩=some (.string x))->bk<w.heap.size->xs.length<=140737488355328->xs.length<=c →
  (Lib.join (xs.map (·.data.toList)) sep.data.toList).length<=140737488355328 →
  Calls P g #[.slice (some ⟨bk,o,none⟩) xs.length c,.string sep] w fun e w'=>e = .returned (.string ⟨(Lib.join (xs.map (·.data.toList)) sep.data.toList).toArray⟩)/\Go.RowKit.Below w.heap.size w w'):aM P (tT g):=by
 refine mh fun f ts σ t τ h => ?_
 unfold tT at h
 split at h
 · cases h
 · rename_i hb
   have:=Nat.eq_of_beq_eq_true hb
   subst this
   split at h
   · rename_i x sep
     split at h
     · rename_i n vs hsrc
       split at h
       · rename_i l hl
         have hvs:=wR hl
         subst hvs
         split at h
         · cases h
         · rename_i Us
           split at h
           · rename_i hle
             cases h
             rw [Bool.and_eq_true] at hle
             have aau:=Nat.le_of_ble_eq_true hle.1
             have hle2:=Nat.le_of_ble_eq_true hle.2
             refine ⟨rfl,fun ι w us hR hA => ?_⟩
             obtain ⟨u0,u1,rfl,a,a'⟩:=GL hA
             · · obtain ⟨sp,rfl,rfl⟩:=a'
                 have Jx:∀ (ad:Option Addr) (c:Nat),l=[]->Calls P f #[.slice ad 0 c,.string sp] w fun e u=>∃ v,e = .returned v/\Still w u/\aK ι (Z (.str (gX sp.data.toList l))) v:=by
                  intro ad c e
                  subst e
                  refine (h0 ad c sp w).mono ?_
                  rintro e u ⟨rfl,rfl⟩
                  exact ⟨_,rfl,Still.refl _,⟨_,rfl,rfl⟩⟩
                 cases x with
                 | any=>cases hsrc
                 | eF _=>cases hsrc
                 | v y=>cases y with
                   | agg _=>cases hsrc
                   | s y=>cases y with
                     | ay =>
                       simp only [eY,Option.some.injEq,Prod.mk.injEq] at hsrc
                       have hl0:l=[]:=by
                        cases l with
                        | nil=>rfl
                        | cons _ _=>simp [cg] at hsrc
                       have ha:u0=Value.slice none 0 0:=a
                       subst ha
                       exact Jx _ _ hl0
                     | emp i e =>
                       simp only [eY,Option.some.injEq,Prod.mk.injEq] at hsrc
                       have hl0:l=[]:=by
                        cases l with
                        | nil=>rfl
                        | cons _ _=>simp [cg] at hsrc
                       obtain ⟨L,o,c,_,rfl,_⟩:=a
                       exact Jx _ _ hl0
                     | str q=>exact absurd rfl (Us q)
                     | sl i o m cap =>
                       have hv:∃ (L:Loc) (c:Nat),ι i=some L/\m<=c/\aT (aK ι) [.v (.s (.sl i o m cap))] [Value.slice (some ⟨L.b,L.base+o,none⟩) m c]/\∃ v,v=Value.slice (some ⟨L.b,L.base+o,none⟩) m c/\v=u0:=by
                        cases cap with
                        | known c=>obtain ⟨L,e1,e2,e3⟩:=a;exact ⟨L,c,e1,e3,.cons ⟨L,e1,rfl,e3⟩ .nil,_,rfl,e2.symm⟩
                        | grown q=>obtain ⟨L,c,e1,e2,e3,e4⟩:=a;exact ⟨L,c,e1,e3,.cons ⟨L,c,e1,rfl,e3,e4⟩ .nil,_,rfl,e2.symm⟩
                       obtain ⟨L,c,hL,hmc,_,v,rfl,hvv⟩:=hv
                       subst hvv
                       by_cases hz:m=0
                       · subst hz
                         simp only [eY,if_true,Option.some.injEq,Prod.mk.injEq] at hsrc
                         have hl0:l=[]:=by
                          cases l with
                          | nil=>rfl
                          | cons _ _=>simp [cg] at hsrc
                         exact Jx _ _ hl0
                       · simp only [eY,if_neg hz] at hsrc
                         split at hsrc
                         · rename_i own rows hrows
                           split at hsrc
                           · rename_i aam
                             simp only [Option.some.injEq,Prod.mk.injEq] at hsrc
                             obtain ⟨rfl,hst⟩:=hsrc
                             obtain ⟨cs,e,fz,k1,k2,k3,k4,k5⟩:=hR.blk i L _ hL hrows
                             have Iz:m=l.length:=by
                              have:=congrArg List.length hst
                              rw [List.length_take,List.length_drop,Km] at this
                              omega
                             have hx:∃ xs:List ByteArray,xs.map (·.data.toList)=l/\∀ (j:Nat) x,xs[j]? = some x->w.cell? ⟨L.b,L.base+o+j,none⟩=some (.string x):=by
                              have hone:∀ j,j<l.length->∃ x:ByteArray,x.data.toList=l.getD j []/\w.cell? ⟨L.b,L.base+o+j,none⟩=some (.string x):=by
                               intro j hj
                               have h2:rows[o+j]? = some (.str (l.getD j [])):=by
                                have:((rows.drop o).take (m*1))[j]? = (cg l)[j]? := by rw [hst]
                                rw [List.getElem?_take_of_lt (by omega),List.getElem?_drop,AU,List.getElem?_eq_getElem hj] at this
                                rw [this]
                                simp [List.getD,hj]
                               obtain ⟨v,hv,x,rfl,hx⟩:=k4 _ _ h2
                               refine ⟨x,hx,?_⟩
                               unfold World.cell?
                               simp only [k1]
                               rw [Nat.add_assoc]
                               simpa using hv
                              obtain ⟨xs,x1,x2⟩:=qR l.length hone
                              refine ⟨xs,?_,fun j x hj=>(x2 j x hj).2⟩
                              apply List.ext_getElem?
                              intro j
                              by_cases hj:j<l.length
                              · have h3:xs[j]? = some xs[j]:=List.getElem?_eq_getElem (by omega)
                                rw [List.getElem?_map,h3,List.getElem?_eq_getElem hj,Option.map_some,(x2 j _ h3).1]
                                simp [List.getD,hj]
                              · rw [List.getElem?_eq_none (by simp;omega),List.getElem?_eq_none (by omega)]
                             obtain ⟨xs,hxs,hcell⟩:=hx
                             have hxl:xs.length=m:=by
                              have:=congrArg List.length hxs
                              simpa [← Iz] using this
                             have hlt:L.b<w.heap.size:=(Array.getElem?_eq_some_iff.1 k1).1
                             have hjl:=vU sp.data.toList l
                             have iE:(Lib.join (xs.map (·.data.toList)) sp.data.toList).length<=140737488355328:=by
                              rw [hxs,qc]
                              omega
                             have vG:=h1 L.b (L.base+o) c xs sp w hcell hlt (by omega) (by omega) iE
                             rw [hxl] at vG
                             refine vG.mono ?_
                             rintro e u ⟨rfl,mT⟩
                             refine ⟨_,rfl,Still.of mT,⟨_,rfl,?_⟩⟩
                             rw [hxs,qc]
                           · cases hsrc
                         · cases hsrc
                     | _=>cases hsrc
           · cases h
       · cases h
     · cases h
   · cases h
theorem Jd {g:Nat} {x:S} {l:List Bs} {sep:Bs} {σ:St} (h:RT σ x l) (hb:cT l+l.length*sep.length<=1000000) (hl:l.length<=1000000):tT g g [Z x,Z (.str sep)] σ=some (Z (.str (gX sep l)),σ):=by
 have RD:∀ q,(Z x:T) ≠ .v (.s (.str q)):=by
  intro q e
  rcases h.rd with ⟨_,rfl | ⟨c,g,rfl⟩ | ⟨c,o,cap,rfl⟩⟩ | ⟨c,o,cap,w,vs,rfl,_⟩<;>cases e
 have e1:=Nat.ble_eq_true_of_le hb
 have e2:=Nat.ble_eq_true_of_le hl
 unfold tT
 rw [Nat.beq_refl]
 dsimp only
 rw [h.src]
 dsimp only
 rw [rA]
 dsimp only
 rw [e1,e2]
 rcases h.rd with ⟨_,rfl | ⟨c,g,rfl⟩ | ⟨c,o,cap,rfl⟩⟩ | ⟨c,o,cap,w,vs,rfl,_⟩<;>rfl
end Go.Abs.F
namespace Go.Abs
open Go Go.Abs.F
set_option linter.unusedVariables false
inductive NK where
 | flat (k:AK)
 | sl (ks:List AK)
def PJ (W:World) (ks:List AK) (v:Value):Prop :=
 v = .slice none 0 0\/(∃ a,v = .slice (some a) 0 0) ∨
   ∃ (b o cap:Nat) (rows:List (List S)),v = .slice (some ⟨b,o,none⟩) rows.length cap/\(rows.length<=cap/\rows.length<9223372036854775808)/\(∀ x∈rows,aT KS ks x)/\∃ L:Loc,L.b=b/\L.base=o/\∀ ι,dq ι L W (dI rows.flatten)
def Tp (W:World):NK->Value->Prop
 | .flat k,v=>∃ x,KS k x/\∀ ι,ba ι x v
 | .sl ks,v=>0<ks.length/\PJ W ks v
def xe (s:St):NK->S->Prop
 | .flat k,x=>KS k x
 | .sl ks,x=>∃ rows:List (List S),(∀ r∈rows,aT KS ks r)/\rows.length<9223372036854775808/\Rd ks.length s x rows.length rows.flatten/\∀ c,own x=some c->c<s.size
def Ai (P:Program) (n:Nat):List Field->Nat->Option (List NK)
 | [],_=>some []
 | f::fs,off=>if f.offset=off then
    match P.underlying f.type with
    | some (.slice e)=>match mY P n e with
      | some ks=>if 0<ks.length/\P.cellsOf e=ks.length/\P.cellsOf f.type=1 then (Ai P n fs (off+1)).map (.sl ks::·) else none
      | none=>none
    | _=>match mY P n f.type with
      | none=>none
      | some ks=>if ks.length=P.cellsOf f.type then (Ai P n fs (off+ks.length)).map (ks.map .flat++·) else none
  else none
section
variable {H:Type} {enc:TypeId×Value->H} {P:Program} {W:World} {base:Nat} {held:Bool}
theorem C7 {ι:bV} {b o:Nat} {c:Array Value} {el:TypeId} {fz:Nat×Nat} {cs:List Value} {xs:List S} (hb:W.heap[b]? = some (.cells c el fz)) (hc:∀ j,j<cs.length->c[o+j]? = cs[j]?) (h:aT (ba ι) xs cs) :
 dq ι ⟨b,o,c.size,0⟩ W (dI xs):=by
 cases hxs:xs with
 | nil=>trivial
 | cons y ys =>
   rw [← hxs]
   have hl:=aA h
   have hne:dI xs = .cells false xs:=by rw [hxs];rfl
   rw [hne]
   have hpos:0<xs.length:=by rw [hxs];simp
   refine ⟨c,el,fz,hb,rfl,?_,?_,fun h=>by cases h⟩
   · have h1:=hc (xs.length-1) (by omega)
     rw [List.getElem?_eq_getElem (show xs.length-1<cs.length by omega)] at h1
     have:=(Array.getElem?_eq_some_iff.1 h1).1
     show o+xs.length<=c.size
     omega
   · intro j x hj
     obtain ⟨v,hv,hr⟩:=bn h _ _ hj
     have hjl:=(List.getElem?_eq_some_iff.1 hv).1
     exact ⟨v,by rw [← hv];exact hc j hjl,hr⟩
theorem OE {a:Addr} {k len:Nat} {Q:List Value->Prop} {b o:Nat} {c:Array Value} {el:TypeId} {fz:Nat×Nat} (ha:a=⟨b,o,none⟩) (hb:W.heap[b]? = some (.cells c el fz))
 (h:∀ i,i<len->∃ cs,W.cells? base (a.add (i*k)) k=some cs/\Q cs) :
 ∃ css:List (List Value),css.length=len/\(∀ cs∈css,Q cs/\cs.length=k)/\css.flatten.length=len*k/\∀ j,j<css.flatten.length->c[o+j]? = css.flatten[j]? := by
 subst ha
 induction len with
 | zero=>exact ⟨[],rfl,fun x h=>(by cases h),by simp,fun j hj=>by simp at hj⟩
 | succ q ih =>
   obtain ⟨css,h1,h2,h3,h4⟩:=ih fun i hi=>h i (by omega)
   obtain ⟨cs,hcs,hQ⟩:=h q (by omega)
   obtain ⟨_,jy,XO⟩:=World.cells?_some hcs
   refine ⟨css++[cs],by simp [h1],fun x hx => ?_,?_,fun j hj => ?_⟩
   · rw [List.mem_append,List.mem_singleton] at hx
     rcases hx with hx | rfl
     · exact h2 x hx
     · exact ⟨hQ,jy⟩
   · rw [List.flatten_append,List.flatten_singleton,List.length_append,h3,jy,Nat.add_mul];omega
   · rw [List.flatten_append,List.flatten_singleton] at hj ⊢
     rcases Nat.lt_or_ge j (q*k) with hj' | hj'
     · rw [List.getElem?_append_left (by omega)]
       exact h4 j (by omega)
     · rw [List.getElem?_append_right (by omega),h3]
       rw [List.length_append,h3,jy] at hj
       have h5:=XO (j-q*k) (by omega)
       rw [← h5,C8 hb]
       congr 1
       omega
theorem DY {a:Addr} {k:Nat} {cs:List Value} (hk:0<k) (h:W.cells? base a k=some cs):∃ b o,a=⟨b,o,none⟩/\∃ c el fz,W.heap[b]? = some (.cells c el fz):=by
 obtain ⟨_,hl,hg⟩:=World.cells?_some h
 have h1:=hg 0 hk
 rw [List.getElem?_eq_getElem (by omega)] at h1
 obtain ⟨b,o,sp⟩:=a
 simp only [Addr.add,if_true] at h1
 unfold World.cell? at h1
 split at h1
 · rename_i c el fz hb
   cases sp with
   | none=>exact ⟨b,o,rfl,c,el,fz,hb⟩
   | some _=>simp at h1
 · cases h1
theorem uB {t e:TypeId} {fuel:Nat} {cs:List Value} {x:DataW H×List MemPlace} {Q:List Value->Prop} (ht:P.underlying t=some (.slice e)) (h0:0<P.cellsOf e)
 (h:DataW.trod enc P W base (fun _=>true) held fuel t cs=some x) (hQ:∀ m cs x,DataW.trod enc P W base (fun _=>true) held m e cs=some x->Q cs) :
 ∃ v,cs=[v]/\(v = .slice none 0 0\/(∃ a,v = .slice (some a) 0 0)\/∃ (b o cap:Nat) (css:List (List Value)) (c:Array Value) (el:TypeId) (fz:Nat×Nat),v = .slice (some ⟨b,o,none⟩) css.length cap/\css.length<=cap/\css.length<9223372036854775808 ∧
   W.heap[b]? = some (.cells c el fz)/\(∀ cs∈css,Q cs/\cs.length=P.cellsOf e)/\∀ j,j<css.flatten.length->c[o+j]? = css.flatten[j]?):=by
 rcases DataW.trod_slice ht h with ⟨h1,_⟩ | ⟨a,len,cap,elems,rest,m,_,hcs,_,_,hlc,hcap,hlen,hel,YG,_⟩
 · exact ⟨_,h1,.inl rfl⟩
 · refine ⟨_,hcs,.inr ?_⟩
   have Ua:∀ i,i<len->∃ cs,W.cells? base (a.add (i*P.cellsOf e)) (P.cellsOf e)=some cs/\Q cs:=by
    intro i hi
    have h1:=hel i hi
    rw [List.getElem?_eq_getElem (by omega),Option.bind_eq_some_iff] at h1
    obtain ⟨cs,hcs,h1⟩:=h1
    exact ⟨cs,hcs,hQ _ _ _ h1⟩
   by_cases hc0:cap=0
   · subst hc0
     have:len=0:=by omega
     subst this
     exact .inl ⟨a,rfl⟩
   · right
     have hsp:∃ b o,a=⟨b,o,none⟩/\∃ c el fz,W.heap[b]? = some (.cells c el fz):=by
      by_cases hl0:len=0
      · subst hl0
        obtain ⟨hrl,hr⟩:=YG rfl
        have h1:=hr 0 (by omega)
        rw [List.getElem?_eq_getElem (by omega),Option.bind_eq_some_iff] at h1
        obtain ⟨cs,hcs,_⟩:=h1
        rw [Nat.zero_add,Nat.zero_mul] at hcs
        exact DY h0 (by simpa [Addr.add] using hcs)
      · obtain ⟨cs,hcs,_⟩:=Ua 0 (by omega)
        rw [Nat.zero_mul] at hcs
        exact DY h0 (by simpa [Addr.add] using hcs)
     obtain ⟨b,o,rfl,c,el,fz,hb⟩:=hsp
     obtain ⟨css,h1,h2,_,h4⟩:=OE rfl hb Ua
     have hm:maxLen<9223372036854775808:=by decide
     exact ⟨b,o,cap,css,c,el,fz,by rw [h1],by omega,by omega,hb,h2,h4⟩
theorem wI {ks:List AK}:∀ {css:List (List Value)},(∀ cs∈css,(∃ xs:List S,aT KS ks xs/\∀ ι,aT (ba ι) xs cs)) →
 ∃ rows:List (List S),rows.length=css.length/\(∀ r∈rows,aT KS ks r)/\∀ ι,aT (ba ι) rows.flatten css.flatten
 | [],_=>⟨[],rfl,fun r h=>(by cases h),fun ι => .nil⟩
 | cs::css,h=>by
   obtain ⟨xs,h1,h2⟩:=h cs (by simp)
   obtain ⟨rows,h3,h4,h5⟩:=wI (css:=css) fun c hc=>h c (by simp [hc])
   refine ⟨xs::rows,by simp [h3],fun r hr => ?_,fun ι => ?_⟩
   · rcases List.mem_cons.1 hr with rfl | hr
     · exact h1
     · exact h4 r hr
   · rw [List.flatten_cons,List.flatten_cons]
     exact bq (h2 ι) (h5 ι)
theorem FD {t e:TypeId} {fuel n:Nat} {ks:List AK} {cs:List Value} {x:DataW H×List MemPlace} (ht:P.underlying t=some (.slice e)) (hk:mY P n e=some ks) (hc:P.cellsOf e=ks.length) (h0:0<ks.length)
 (h:DataW.trod enc P W base (fun _=>true) held fuel t cs=some x):∃ v,cs=[v]/\PJ W ks v:=by
 obtain ⟨v,h1,h2⟩:=uB (Q:=fun cs=>∃ xs:List S,aT KS ks xs/\∀ ι,aT (ba ι) xs cs) ht (by omega) h fun m cs x h=>pM n m e cs x ks h hk
 refine ⟨v,h1,?_⟩
 rcases h2 with h2 | h2 | ⟨b,o,cap,css,c,el,fz,rfl,hl,Io,hb,hcs,hg⟩
 · exact .inl h2
 · exact .inr (.inl h2)
 · obtain ⟨rows,r1,r2,r3⟩:=wI fun cs h=>(hcs cs h).1
   exact .inr (.inr ⟨b,o,cap,rows,by rw [r1],by omega,r2,⟨b,o,c.size,0⟩,rfl,rfl,fun ι=>C7 hb hg (r3 ι)⟩)
theorem Jv {ks:List AK}:∀ {xs:List S} {cs:List Value},aT KS ks xs->(∀ ι,aT (ba ι) xs cs)->aT (Tp W) (ks.map .flat) cs:=by
 induction ks with
 | nil=>intro xs cs h hr;cases h;have:=hr fun _=>none;cases this;exact .nil
 | cons k ks ih =>
   intro xs cs h hr
   cases h with
   | cons a b =>
     rename_i x xs
     cases cs with
     | nil=>have:=hr fun _=>none;cases this
     | cons v cs =>
       exact .cons ⟨x,a,fun ι=>by have:=hr ι;cases this;assumption⟩ (ih b fun ι=>by have:=hr ι;cases this;assumption)
theorem Aj {cs:List Value} {n:Nat}:∀ (fs:List Field) (off:Nat) (ks:List NK),Ai P n fs off=some ks →
 (∀ f∈fs,∃ m x,DataW.trod enc P W base (fun _=>true) held m f.type ((cs.drop f.offset).take (P.cellsOf f.type))=some x)->aT (Tp W) ks ((cs.drop off).take ks.length):=by
 intro fs
 induction fs with
 | nil =>
   intro off ks h _
   cases h
   simpa using aT.nil
 | cons f fs ih =>
   intro off ks h hx
   unfold Ai at h
   split at h
   · rename_i ho
     subst ho
     obtain ⟨m,x,hx1⟩:=hx f List.mem_cons_self
     have hx2:=fun f' Cb=>hx f' (List.mem_cons_of_mem f Cb)
     split at h
     · rename_i e ht
       split at h
       · rename_i k1 jb
         split at h
         · rename_i hl
           rw [Option.map_eq_some_iff] at h
           obtain ⟨k2,hk2,rfl⟩:=h
           obtain ⟨v,hv,hs⟩:=FD ht jb hl.2.1 hl.1 hx1
           have b2:=ih (f.offset+1) k2 hk2 hx2
           rw [hl.2.2] at hv
           rw [List.length_cons,Nat.add_comm,List.take_add,List.drop_drop,hv]
           exact .cons ⟨hl.1,hs⟩ b2
         · cases h
       · cases h
     · split at h
       · cases h
       · rename_i k1 jb
         split at h
         · rename_i hl
           rw [Option.map_eq_some_iff] at h
           obtain ⟨k2,hk2,rfl⟩:=h
           obtain ⟨xs,a1,a2⟩:=pM n m f.type _ _ _ hx1 jb
           have b2:=ih (f.offset+k1.length) k2 hk2 hx2
           rw [List.length_append,List.length_map,List.take_add,List.drop_drop]
           have b1:=Jv (W:=W) a1 a2
           rw [← hl] at b1
           exact bq b1 b2
         · cases h
   · cases h
theorem xe.keep {s t:St} {k:NK} {x:S} (h:xe s k x) (hz:s.size<=t.size) (hk:∀ c,c<s.size->t.get c=s.get c):xe t k x:=by
 cases k with
 | flat k=>exact h
 | sl ks =>
   obtain ⟨rows,h1,h2,h3,h4⟩:=h
   exact ⟨rows,h1,h2,h3.keep fun c hc=>hk c (h4 c hc),fun c hc=>by have:=h4 c hc;omega⟩
theorem jY.wf {W:World} {σ:St} {vs:List Value} {ts:List T} (h:jY W σ vs ts):σ.wf:=by
 obtain ⟨ι,_,h2,_⟩:=h
 exact h2
theorem OP {W:World} {σ:St} {vs:List Value} {ts:List T} (h:jY W σ vs ts) {ks:List AK} {v:Value} (h0:0<ks.length) (hv:PJ W ks v) :
 ∃ x fW,jY W fW (v::vs) (Z x::ts)/\xe fW (.sl ks) x/\σ.size<=fW.size/\∀ c,c<σ.size->fW.get c=σ.get c:=by
 rcases hv with rfl | ⟨a,rfl⟩ | ⟨b,o,cap,rows,rfl,⟨hl,Io⟩,hr,L,hb,ho,hx⟩
 · exact ⟨.ay,σ,h.flat (x := .ay) fun _=>rfl,⟨[],fun r h=>(by cases h),by simp,Rd.nil _ _,fun c h=>by cases h⟩,Nat.le_refl _,fun _ _=>rfl⟩
 · have h1:=h.slice (b:=0) (o:=0) (len:=0) (cap:=0) (xs:=[]) (Nat.le_refl _) ⟨0,0,0,0⟩ rfl rfl fun ι=>trivial
   refine ⟨.emp σ.size ks.length,σ.push (dI []),?_,⟨[],fun r h=>(by cases h),by simp,⟨by simp,.inl ⟨rfl,.inr (.inl ⟨_,_,rfl⟩)⟩,rfl⟩,fun c hc=>by cases hc;simp⟩,by simp,fun c hc=>St.aD _ _ (by omega)⟩
   obtain ⟨ι,g1,g2,g3,g4,g5⟩:=h1
   refine ⟨ι,g1,g2,g3,g4,?_⟩
   cases g5 with
   | cons p q =>
     obtain ⟨L,hL,_⟩:=p
     exact .cons ⟨L,a,0,hL,rfl,.inl rfl⟩ q
 · refine ⟨_,_,h.slice hl L hb ho hx,?_,by simp,fun c hc=>St.aD _ _ (by omega)⟩
   obtain ⟨x,hx1,hx2,NC⟩:=Sj (s:=σ.push (dI rows.flatten)) (a:=Z (.sl σ.size 0 rows.length (.known cap))) (c:=σ.size) (rows:=rows) (.inr ⟨cap,hl,rfl⟩) h0 (fun r h=>(aA (hr r h)).symm) (St.aq _ _)
   cases hx1
   exact ⟨rows,hr,Io,hx2,fun c hc=>by rw [NC c hc];simp⟩
theorem jY.cells {W:World} {σ:St} {vs:List Value} {ts:List T} (h:jY W σ vs ts):∀ {ks:List NK} {cs:List Value},aT (Tp W) ks cs →
 ∃ fW xs,jY W fW (cs++vs) (xs.map Z++ts)/\aT (xe fW) ks xs/\σ.size<=fW.size/\∀ c,c<σ.size->fW.get c=σ.get c:=by
 intro ks cs hk
 induction hk with
 | nil=>exact ⟨σ,[],h,.nil,Nat.le_refl _,fun _ _=>rfl⟩
 | cons a r ih =>
   rename_i k v ks cs
   obtain ⟨fW,xs,h1,h2,h3,h4⟩:=ih
   cases k with
   | flat k =>
     obtain ⟨x,hx1,hx2⟩:=a
     exact ⟨fW,x::xs,h1.flat hx2,.cons hx1 h2,h3,h4⟩
   | sl ks =>
     obtain ⟨x,σ2,g1,g2,g3,g4⟩:=OP h1 a.1 a.2
     exact ⟨σ2,x::xs,g1,.cons g2 (cU (fun a b hab=>hab.keep g3 g4) h2),by omega,fun c hc=>by rw [g4 c (by omega),h4 c hc]⟩
theorem jY.rows {W:World} {σ:St} {vs:List Value} {ts:List T} (h:jY W σ vs ts) {ks:List NK}:∀ {css:List (List Value)},(∀ cs∈css,aT (Tp W) ks cs) →
 ∃ (fW:St) (rows:List (List S)),jY W fW (css.flatten++vs) (rows.flatten.map Z++ts)/\(∀ r∈rows,aT (xe fW) ks r)/\rows.length=css.length/\rows.flatten.length=css.flatten.length/\σ.size<=fW.size/\∀ c,c<σ.size->fW.get c=σ.get c
 | [],_=>⟨σ,[],h,fun r h=>(by cases h),rfl,rfl,Nat.le_refl _,fun _ _=>rfl⟩
 | cs::css,hc=>by
   obtain ⟨fW,rows,h1,h2,h3,h4,h5,h6⟩:=jY.rows h (css:=css) fun c gO=>hc c (by simp [gO])
   obtain ⟨σ2,xs,g1,g2,g3,g4⟩:=h1.cells (hc cs (by simp))
   refine ⟨σ2,xs::rows,by simpa using g1,fun r hr => ?_,by simp [h3],?_,by omega,fun c hc=>by rw [g4 c (by omega),h6 c hc]⟩
   · rcases List.mem_cons.1 hr with rfl | hr
     · exact g2
     · exact cU (fun a b hab=>hab.keep g3 g4) (h2 r hr)
   · rw [List.flatten_cons,List.flatten_cons,List.length_append,List.length_append,h4,← aA g2,← aA (hc cs (by simp))]
theorem jY.outer {W:World} {σ:St} {cs vs:List Value} {xs:List S} {ts:List T} (h:jY W σ (cs++vs) (xs.map Z++ts)) (hl:xs.length=cs.length) {b o len cap:Nat} {c:Array Value} {el:TypeId} {fz:Nat×Nat}
 (hlc:len<=cap) (hb:W.heap[b]? = some (.cells c el fz)) (hc:∀ j,j<cs.length->c[o+j]? = cs[j]?) :
 jY W (σ.push (dI xs)) (.slice (some ⟨b,o,none⟩) len cap::vs) (.v (.s (.sl σ.size 0 len (.known cap)))::ts):=by
 obtain ⟨ι,h1,h2,h3,h4,h5⟩:=h
 have hsp:aT (ba ι) xs cs/\aT (aK ι) ts vs:=by
  clear hc hb
  induction xs generalizing cs with
  | nil =>
    cases cs with
    | nil=>exact ⟨.nil,h5⟩
    | cons _ _=>simp at hl
  | cons x xs ih =>
    cases cs with
    | nil=>simp at hl
    | cons v cs =>
      cases h5 with
      | cons p q =>
        obtain ⟨i1,i2⟩:=ih (by simpa using hl) q
        exact ⟨.cons p i1,i2⟩
 have hle:ι.le (fun i=>if i=σ.size then some ⟨b,o,c.size,0⟩ else ι i):=by
  intro i M hi
  have:i≠σ.size:=by
   intro e
   rw [h3 i (by omega)] at hi
   cases hi
  simp [this,hi]
 have hx:=C7 hb hc hsp.1
 refine ⟨fun i=>if i=σ.size then some ⟨b,o,c.size,0⟩ else ι i,⟨?_,?_,?_⟩,St.bu h2 _,?_,?_,.cons ⟨⟨b,o,c.size,0⟩,by simp,by simp,hlc⟩ (cU (fun a c k=>k.mono hle) hsp.2)⟩
 · intro i M b' hi hc
   by_cases e:i=σ.size
   · subst e
     simp only [if_true] at hi
     cases hi
     rw [St.aq] at hc
     cases hc
     exact hx.mono hle
   · simp only [if_neg e] at hi
     rw [St.aD _ _ e] at hc
     exact (h1.blk i M b' hi hc).mono hle
 · intro i j L1 M1 hi hj xR
   exfalso
   by_cases e:i=σ.size
   · subst e
     rw [St.aq] at xR
     exact eV _ xR
   · rw [St.aD _ _ e] at xR
     exact h4 i xR
 · intro i n vs hg
   by_cases e:i=σ.size
   · subst e;exact ⟨_,by simp;rfl⟩
   · rw [St.aD _ _ e] at hg
     obtain ⟨M,hM⟩:=h1.dP i n vs hg
     exact ⟨M,by simp [e,hM]⟩
 · intro i hi
   rw [St.size_push] at hi
   simp only [if_neg (show i≠σ.size by omega)]
   exact h3 i (by omega)
 · intro i xR
   by_cases e:i=σ.size
   · subst e
     rw [St.aq] at xR
     exact eV _ xR
   · rw [St.aD _ _ e] at xR
     exact h4 i xR
theorem jY.nest {σ:St} {vs:List Value} {ts:List T} (h:jY W σ vs ts) {t e:TypeId} {fs:Array Field} {n:Nat} {ks:List NK} {v:Value} {d:DataW H} {ps:List MemPlace} (ht:P.underlying t=some (.slice e)) (he:P.underlying e=some (.struct fs))
 (hk:Ai P n fs.toList 0=some ks) (hc:P.cellsOf e=ks.length) (h0:0<ks.length) {r:Reach} {b0:Nat} (hval:Value.okWide P W r b0 t v) (XV:DataW.Trod enc P W base (fun _=>true) held t v d ps) :
 ∃ (fW:St) (x:S) (rows:List (List S)),jY W fW (v::vs) (Z x::ts)/\(∀ r∈rows,aT (xe fW) ks r)/\rows.length<9223372036854775808/\Rd ks.length fW x rows.length rows.flatten/\(∀ c,own x=some c->c<fW.size)/\σ.size<=fW.size/\∀ c,c<σ.size->fW.get c=σ.get c:=by
 obtain ⟨fuel,hf⟩:=XV
 obtain ⟨v',hv,h1⟩:=uB (Q:=fun cs=>cs.length=P.cellsOf e->aT (Tp W) ks cs) ht (by omega) hf fun m cs x hx hl=>by
  obtain ⟨xs,m',_,_,jy,hxl,hxs⟩:=DataW.trod_struct he hx
  have:=Aj (W:=W) (cs:=cs) (enc:=enc) (P:=P) (base:=base) (held:=held) (n:=n) fs.toList 0 ks hk fun f hf=>by
   obtain ⟨i,hi⟩:=List.getElem?_of_mem hf
   have hi':fs[i]? = some f:=by simpa using hi
   have h2:=hxs i f hi'
   have h3:i<xs.length:=by rw [hxl];exact (Array.getElem?_eq_some_iff.1 hi').1
   rw [List.getElem?_eq_getElem h3] at h2
   exact ⟨m',_,h2⟩
  rwa [List.drop_zero,← hc,← hl,List.take_length] at this
 have II:v=v':=by
  have KO:Cell.okWide P W r b0 t v:=by
   unfold Value.okWide at hval
   rw [ht] at hval
   exact hval
  have oC:Cell.ok P W r b0 t v:=by
   unfold Cell.okWide at KO
   rw [ht] at KO
   exact KO
  unfold Cell.ok at oC
  rw [ht] at oC
  have Cd:∃ a len cap,v = .slice a len cap:=by
   split at oC
   all_goals first | (rename_i he;cases he;done) | skip
   all_goals first | exact oC.elim | exact ⟨_,_,_,rfl⟩
  obtain ⟨a,len,cap,rfl⟩:=Cd
  simpa [Value.cells] using hv
 subst II
 rcases h1 with rfl | ⟨a,rfl⟩ | ⟨b,o,cap,css,c,el,fz,rfl,hl,Io,hb,hcs,hg⟩
 · exact ⟨σ,.ay,[],h.flat (x := .ay) fun _=>rfl,fun r h=>(by cases h),by simp,Rd.nil _ _,(fun c h=>by cases h),Nat.le_refl _,fun _ _=>rfl⟩
 · have h1:=h.slice (b:=0) (o:=0) (len:=0) (cap:=0) (xs:=[]) (Nat.le_refl _) ⟨0,0,0,0⟩ rfl rfl fun ι=>trivial
   refine ⟨σ.push (dI []),S.emp σ.size ks.length,[],?_,fun r h=>(by cases h),by simp,⟨by simp,.inl ⟨rfl,.inr (.inl ⟨_,_,rfl⟩)⟩,rfl⟩,(fun c hc=>by cases hc;simp),by simp,fun c hc=>St.aD _ _ (by omega)⟩
   obtain ⟨ι,g1,g2,g3,g4,g5⟩:=h1
   refine ⟨ι,g1,g2,g3,g4,?_⟩
   cases g5 with
   | cons p q =>
     obtain ⟨L,hL,_⟩:=p
     exact .cons ⟨L,a,0,hL,rfl,.inl rfl⟩ q
 · obtain ⟨fW,rows,g1,g2,g3,g4,g5,g6⟩:=h.rows (css:=css) fun cs Nl=>(hcs cs Nl).1 (hcs cs Nl).2
   have hout:=g1.outer g4 hl hb hg
   have hsz:(fW.push (dI rows.flatten)).size=fW.size+1:=by simp
   obtain ⟨x,hx1,hx2,NC⟩:=Sj (s:=fW.push (dI rows.flatten)) (a:=Z (.sl fW.size 0 css.length (.known cap))) (c:=fW.size) (e:=ks.length) (rows:=rows) (.inr ⟨cap,by omega,by rw [g3]⟩) h0 (fun r h=>(aA (g2 r h)).symm) (St.aq _ _)
   cases hx1
   exact ⟨_,_,rows,hout,fun r hr=>cU (fun a b hab=>hab.keep (by omega) fun c hc=>St.aD _ _ (by omega)) (g2 r hr),by omega,hx2,(fun c hc=>by rw [NC c hc];simp),by omega,fun c hc=>by rw [St.aD _ _ (by omega),g6 c hc]⟩
end
end Go.Abs
