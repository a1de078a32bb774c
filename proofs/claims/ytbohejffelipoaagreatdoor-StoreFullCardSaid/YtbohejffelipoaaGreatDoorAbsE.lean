/-
  A library of our own, several texts in one: an abstract store for the model, and runs over it. Nothing here speaks of any program. No conditions.
-/
import Derived.Test.YtbohejffelipoaaGreatDoorAbsC
import Derived.Carry
import Derived.Test.YtbohejffelipoaaGreatDoorAbsD
import Derived.Lib.LaidTab
import Derived.Below
import Derived.Lib.Bytealg
import Derived.Lib.Join
namespace Go.Abs
open Go Go.ChangeShapes
inductive AK where
 | bool
 | int (k:IntKind)
 | str
 deriving DecidableEq
def KS:AK->S->Prop
 | .bool,.bool _=>True
 | .int k,.int q n=>q=k/\(Lit.int k n).wf=true
 | .str,.str l=>l.length<=maxLen
 | _,_=>False
section
variable {H:Type} {enc:TypeId×Value->H} {P:Program} {w:World} {base:Nat} {spare:Nat->Bool} {held:Bool}
def Aq (vs:List S):dO:=match vs with
 | [] => .dead
 | x::l => .cells false (x::l)
theorem kj (vs:List S):¬ live (some (Aq vs)):=by
 cases vs<;>exact fun h=>h
def xJ (W:World) (σ:St) (vs:List Value) (ts:List T):Prop :=
 ∃ ι:bP,Rel ι σ.get W/\σ.wf/\(∀ i,σ.size<=i->ι i=none)/\(∀ i,¬ live (σ.get i))/\bf (aJ ι) ts vs
theorem xJ.nil (W:World):xJ W St.empty [] [] :=
 ⟨fun _=>none,⟨(fun i L b h=>by cases h),(fun i j L M h=>by cases h),(fun i n vs h=>by cases h)⟩,St.oA,fun _ _=>rfl,fun _ h=>h,.nil⟩
theorem xJ.flat {W:World} {σ:St} {vs:List Value} {ts:List T} (h:xJ W σ vs ts) {v:Value} {x:S} (hx:∀ ι,bb ι x v):xJ W σ (v::vs) (.v (.s x)::ts):=by
 obtain ⟨ι,h1,h2,h3,h4,h5⟩:=h
 exact ⟨ι,h1,h2,h3,h4,.cons (hx ι) h5⟩
theorem xJ.agg {W:World} {σ:St} {vs:List Value} {ts:List T} (h:xJ W σ vs ts) {cs:List Value} {xs:List S} (hx:∀ ι,bf (bb ι) xs cs):xJ W σ (.agg cs.toArray::vs) (.v (.agg xs)::ts):=by
 obtain ⟨ι,h1,h2,h3,h4,h5⟩:=h
 exact ⟨ι,h1,h2,h3,h4,.cons ⟨cs,rfl,hx ι⟩ h5⟩
theorem xJ.slice {W:World} {σ:St} {vs:List Value} {ts:List T} (h:xJ W σ vs ts) {b o len cap:Nat} {xs:List S} (hl:len<=cap) (L:Loc) (hb:L.b=b) (ho:L.base=o) (hx:∀ ι,dL ι L W (Aq xs)) :
 xJ W (σ.push (Aq xs)) (.slice (some ⟨b,o,none⟩) len cap::vs) (.v (.s (.sl σ.size 0 len (.known cap)))::ts):=by
 obtain ⟨ι,h1,h2,h3,h4,h5⟩:=h
 have hle:ι.le (fun i=>if i=σ.size then some L else ι i):=by
  intro i M hi
  have:i≠σ.size:=by
   intro e
   rw [h3 i (by omega)] at hi
   cases hi
  simp [this,hi]
 refine ⟨fun i=>if i=σ.size then some L else ι i,⟨?_,?_,?_⟩,St.bn h2 _,?_,?_,.cons ⟨L,by simp,by rw [hb,ho];simp,hl⟩ (fy (fun a c k=>k.mono hle) h5)⟩
 · intro i M c hi hc
   by_cases e:i=σ.size
   · subst e
     simp only [if_true] at hi
     cases hi
     rw [St.aq] at hc
     cases hc
     exact hx _
   · simp only [if_neg e] at hi
     rw [St.aI _ _ e] at hc
     exact (h1.blk i M c hi hc).mono hle
 · intro i j L1 M1 hi hj Mc
   exfalso
   by_cases e:i=σ.size
   · subst e
     rw [St.aq] at Mc
     exact kj _ Mc
   · rw [St.aI _ _ e] at Mc
     exact h4 i Mc
 · intro i n vs hg
   by_cases e:i=σ.size
   · subst e;exact ⟨L,by simp⟩
   · rw [St.aI _ _ e] at hg
     obtain ⟨M,hM⟩:=h1.dN i n vs hg
     exact ⟨M,by simp [e,hM]⟩
 · intro i hi
   rw [St.size_push] at hi
   simp only [if_neg (show i≠σ.size by omega)]
   exact h3 i (by omega)
 · intro i Mc
   by_cases e:i=σ.size
   · subst e
     rw [St.aq] at Mc
     exact kj _ Mc
   · rw [St.aI _ _ e] at Mc
     exact h4 i Mc
theorem Dr {aa:ak} (hs:aM P aa) {f:FuncId} {ts:List T} {vs:List Value} {σ τ:St} {W:World} {b:Bool} (hi:xJ W σ vs ts)
 (h:aa f ts σ=some (B b,τ)):Calls P f vs.toArray W fun e u=>e = .returned (.bool b)/\Kept W u:=by
 obtain ⟨ι,h1,h2,h3,h4,h5⟩:=hi
 exact wy hs h h2 h1 (fun i hi _=>h3 i hi) h5 fun i L _ _=>h4 i
theorem D3 {W u:World} (h:Kept W u) {p:MemPlace} (hp:p.block<W.heap.size):W.sameAt u p:=by
 cases p with
 | cell b o=>exact World.cell?_of_block (w:=W) (h.2.2.2 b hp)
 | map b=>exact h.2.2.2 b hp
theorem uD {W u:World} (hl:laidOutB P=true) (hk:Kept W u) :
 ∀ {ts:List TypeId} {vs:List Value} {ds:List (DataW H)} {p:List MemPlace} {sp:Nat->Bool},DataW.TrodAll enc P W 0 (fun _=>true) true ts vs ds p->(ts.all fun t=>P.readableRec t&&decide (t<P.types.size))=true →
   (∀ x∈p,x.block<W.heap.size)->(∀ x∈p,sp x.block=true)->DataW.TrodAll enc P u 0 sp true ts vs ds p:=by
 intro ts
 induction ts with
 | nil =>
   intro vs ds p sp h _ _ _
   cases vs<;>cases ds<;>first | exact h | exact h.elim
 | cons t ts ih =>
   intro vs ds p sp h hr hlt hsp
   cases vs with
   | nil=>exact h.elim
   | cons v vs=>cases ds with
     | nil=>exact h.elim
     | cons d ds =>
       obtain ⟨q,r,h1,h2,rfl⟩:=h
       simp only [List.all_cons,Bool.and_eq_true,decide_eq_true_eq] at hr
       refine ⟨q,r,WideElems.Trod_stays hl hr.1.1 hr.1.2 h1 (fun x hx => ?_) fun x hx=>hsp x (List.mem_append_left _ hx),ih h2 hr.2 (fun x hx=>hlt x (List.mem_append_right _ hx)) fun x hx=>hsp x (List.mem_append_right _ hx),rfl⟩
       have hx':=hlt x (List.mem_append_left _ hx)
       exact D3 hk hx'
end
end Go.Abs
namespace Go.Abs.F
open Go Go.Abs
theorem aW {f:List T->St->Option (JO×St)} (In:Nat->List T->St->Prop) (Q:JO->St->Prop)
 (step:∀ k v s,In k v s->(∃ v' s' k',f v s=some (.normal v',s')/\k=k'+1/\In k' v' s')\/∃ j s',f v s=some (j,s')/\(∀ v,j ≠ .normal v)/\Q j s') :
 ∀ N k v s,In k v s->k<N->∃ j τ,loops f N v s=some (j,τ)/\Q j τ:=by
 intro N
 induction N with
 | zero=>intro k v s _ h;omega
 | succ N ih =>
   intro k v s hi hk
   rcases step k v s hi with ⟨v',s',k',hf,hk',hi'⟩ | ⟨j,s',hf,hj,hq⟩
   · obtain ⟨j,τ,h,hq⟩:=ih k' v' s' hi' (by omega)
     exact ⟨j,τ,by simp only [loops,hf];exact h,hq⟩
   · refine ⟨j,s',?_,hq⟩
     cases j with
     | normal v=>exact absurd rfl (hj v)
     | exit i v=>simp only [loops,hf]
     | ret r=>simp only [loops,hf]
@[simp] theorem QF (b o len:Nat) (c:Cap):aA (Z (.sl b o len c))=some (I .i64 len):=nz rfl
@[simp] theorem Nw:aA (Z .az)=some (I .i64 0):=nz rfl
@[simp] theorem Od (i e:Nat):aA (Z (.emp i e))=some (I .i64 0):=nz rfl
theorem cZ {e b o len:Nat} {c:Cap} {k:IntKind} {n:Int} {j:Nat} (hn:n=j) (h:j<len):av e (Z (.sl b o len c)) (I k n)=some (Z (.ptr b (o+j*e))):=by
 subst hn
 simp [av,nh,h]
end Go.Abs.F
namespace Go.Abs
open Go Go.Abs.F
def JQ (a:T) (c:Nat) (rows:List (List S)):Prop:=(a=Z .az/\rows=[])\/∃ cap,rows.length<=cap/\a=Z (.sl c 0 rows.length (.known cap))
theorem JQ.len {a:T} {c:Nat} {rows:List (List S)} (h:JQ a c rows):aA a=some (I .i64 rows.length):=by
 rcases h with ⟨rfl,rfl⟩ | ⟨cap,_,rfl⟩<;>rfl
theorem JQ.index {a:T} {c:Nat} {rows:List (List S)} (h:JQ a c rows) {k:IntKind} {e j:Nat} {n:Int} (hn:n=j) (hj:j<rows.length):av e a (I k n)=some (Z (.ptr c (j*e))):=by
 rcases h with ⟨rfl,rfl⟩ | ⟨cap,_,rfl⟩
 · simp at hj
 · rw [cZ hn hj,Nat.zero_add]
theorem xJ.dead {W:World} {σ:St} {vs:List Value} {ts:List T} (h:xJ W σ vs ts):xJ W (σ.push .dead) vs ts:=by
 obtain ⟨ι,h1,h2,h3,h4,h5⟩:=h
 have ne:∀ i L,ι i=some L->i≠σ.size:=by
  intro i L hi e
  rw [h3 i (by omega)] at hi
  cases hi
 refine ⟨ι,⟨fun i L b hi hb => ?_,fun i j L M hi hj hl hh => ?_,fun i n vs hg => ?_⟩,St.bn h2 _,fun i hi=>h3 i (by rw [St.size_push] at hi;omega),fun i hl => ?_,h5⟩
 · rw [St.aI _ _ (ne i L hi)] at hb
   exact h1.blk i L b hi hb
 · rw [St.aI _ _ (ne i L hi)] at hl
   exact absurd hl (h4 i)
 · by_cases e:i=σ.size
   · subst e;rw [St.aq] at hg;cases hg
   · rw [St.aI _ _ e] at hg;exact h1.dN i n vs hg
 · by_cases e:i=σ.size
   · subst e
     rw [St.aq] at hl
     exact hl
   · rw [St.aI _ _ e] at hl
     exact h4 i hl
theorem KS.int {k:IntKind} {x:S} (h:KS (.int k) x):∃ n,x = .int k n/\(Lit.int k n).wf=true:=by
 cases x<;>first | exact h.elim | (obtain ⟨rfl,hw⟩:=h;exact ⟨_,rfl,hw⟩)
end Go.Abs
namespace Go.Abs.F
open Go Go.Abs
section
variable {X Y:T}
inductive Tw (X Y:T):Option (JO×St)->Option (JO×St)->Prop
 | norm (l:List T) (s:St):Tw X Y (some (.normal (X::l),s)) (some (.normal (Y::l),s))
 | exit (i:Nat) (l:List T) (s:St):Tw X Y (some (.exit i (X::l),s)) (some (.exit i (Y::l),s))
 | same (x:Option (JO×St)):Tw X Y x x
theorem Cp {P:Program} {N:Nat} {dw:ak} {d:Nat} {f:FuncId} {args args':List T} {σ:St} {b:Bool} (h:eO P N dw d f args σ=eO P N dw d f args' σ) (k:yE b (eO P N dw d f args' σ)=true) :
 ∃ τ,eO P N dw d f args σ=some (B b,τ):=by
 rw [h]
 exact uS k
end
theorem aB (y:Int) (h0 : -2 ^ 63<=y) (h1:y<2 ^ 63):IntKind.i64.wrap y=y:=by
 unfold IntKind.wrap
 simp [IntKind.signed,IntKind.bits]
 omega
theorem wrap_u64 (x:Int):0<=IntKind.u64.wrap x:=by
 unfold IntKind.wrap
 simp [IntKind.signed,IntKind.bits]
 omega
theorem cf (x:Int) (h0:0<=x) (h1:x<2 ^ 64):IntKind.u64.wrap x=x:=by
 unfold IntKind.wrap
 simp [IntKind.signed,IntKind.bits]
 omega
section
variable {Q Q':List T->Prop} {X Y:T}
inductive XZ (Q:List T->Prop) (X Y:T):Option (JO×St)->Option (JO×St)->Prop
 | norm (l:List T) (s:St) (h:Q l):XZ Q X Y (some (.normal (X::l),s)) (some (.normal (Y::l),s))
 | same (x:Option (JO×St)):XZ Q X Y x x
end
end Go.Abs.F
namespace Go.Abs
open Go Go.Abs.F Go.RowKit
structure Still (w u:World):Prop where
 os:u.os=w.os
 output:u.output=w.output
 size:w.heap.size<=u.heap.size
 block:∀ k,k<w.heap.size->u.heap[k]? = w.heap[k]?
theorem Still.refl (w:World):Still w w:=⟨rfl,rfl,Nat.le_refl _,fun _ _=>rfl⟩
theorem Still.of {w u:World} (h:Below w.heap.size w u):Still w u:=⟨h.os,h.output,h.size,h.block⟩
theorem Rel.below {ι:bP} {g:Mem} {w u:World} (hR:Rel ι g w) (hb:Still w u):Rel ι g u:=by
 refine ⟨fun i L b hi hb' => ?_,hR.sep,hR.dN⟩
 have hB:=hR.blk i L b hi hb'
 cases b with
 | dead=>trivial
 | cells own vs=>exact hB.congr (hb.block _ (hB.lt trivial))
 | map es=>exact hB.congr (hb.block _ (hB.lt trivial))
 | dN g vs=>exact hB.congr (hb.block _ (hB.lt trivial))
theorem Ext.below {ι:bP} {σ:St} {w u:World} (hb:Still w u):Ext ι σ w ι σ u :=
 ⟨Nat.le_refl _,fun _ _=>rfl,fun _ _ h=>h,fun _ _ h=>h,fun _ _ _=>rfl,fun i L h1 h2=>by omega,hb.os,hb.output,hb.size,fun k hk _=>hb.block k hk⟩
theorem lG {P:Program} {c:ak} (h:∀ f ts σ t τ,c f ts σ=some (t,τ)->τ=σ/\∀ ι w vs,Rel ι σ.get w->bf (aJ ι) ts vs →
 Calls P f vs.toArray w fun e u=>∃ v,e = .returned v/\Still w u/\aJ ι t v):aM P c:=by
 constructor
 · intro f ts σ t τ hc wf
   obtain ⟨rfl,_⟩:=h f ts σ t τ hc
   exact ⟨wf,Nat.le_refl _⟩
 · intro f ts σ t τ hc wf ι w vs hR hF hA
   obtain ⟨rfl,hk⟩:=h f ts σ t τ hc
   refine (hk ι w vs hR hA).mono ?_
   rintro e u ⟨v,rfl,hb,hT⟩
   exact ⟨ι,v,rfl,Ext.below hb,hR.below hb,hT⟩
def vM (g:Nat) (vs:List S):St:=St.empty.push (.dN g vs)
theorem xJ.dN {P:Program} {W:World} {name:String} {k:IntKind} {zs:List Int} {g:Nat} (hg:P.globalNamed name=some g) (h:Lib.TabIs P W name k zs) :
 xJ W (vM g (zs.map (S.int k))) [] []:=by
 unfold Lib.TabIs World.var? at h
 rw [hg] at h
 simp only [Option.bind_some] at h
 split at h
 · rename_i cs e fz hb
   cases h
   have LY:∀ i b,(vM g (zs.map (S.int k))).get i=some b->i=0/\b = .dN g (zs.map (S.int k)):=by
    intro i b hi
    unfold vM at hi
    by_cases e:i=0
    · subst e
      have:=St.aq St.empty (.dN g (zs.map (S.int k)))
      rw [show St.empty.size=0 from rfl] at this
      rw [this] at hi
      cases hi
      exact ⟨rfl,rfl⟩
    · rw [St.aI _ _ (by simpa using e)] at hi
      cases hi
   refine ⟨fun i=>if i=0 then some ⟨g,0,0,0⟩ else none,⟨fun i L b hi hb' => ?_,fun i j L M hi hj hl => ?_,fun i n vs hi => ?_⟩,St.bn St.oA _,fun i hi => ?_,fun i hi => ?_,.nil⟩
   · obtain ⟨rfl,rfl⟩:=LY i b hb'
     simp only [if_true,Option.some.injEq] at hi
     subst hi
     refine ⟨rfl,_,_,_,hb,by simp,fun j x hx => ?_⟩
     rw [List.getElem?_map,Option.map_eq_some_iff] at hx
     obtain ⟨n,hn,rfl⟩:=hx
     exact ⟨.int k n,by simp [hn],rfl⟩
   · exfalso
     cases iu:(vM g (zs.map (S.int k))).get i with
     | none=>rw [iu] at hl;exact hl
     | some b=>obtain ⟨_,rfl⟩:=LY i b iu;rw [iu] at hl;exact hl
   · obtain ⟨rfl,_⟩:=LY i _ hi
     exact ⟨_,rfl⟩
   · have:i≠0:=by
      have:(vM g (zs.map (S.int k))).size=1:=rfl
      omega
     simp [this]
   · cases iu:(vM g (zs.map (S.int k))).get i with
     | none=>rw [iu] at hi;exact hi
     | some b=>obtain ⟨_,rfl⟩:=LY i b iu;rw [iu] at hi;exact hi
 · cases h
end Go.Abs
namespace Go.Abs.F
open Go Go.Abs
end Go.Abs.F
namespace Go.Abs
open Go Go.Abs.F
set_option linter.unusedVariables false
def Gr (s t:St):Prop:=t.wf/\s.size<=t.size/\∀ b,b<s.size->t.get b=s.get b
theorem Gr.refl {s:St} (wf:s.wf):Gr s s:=⟨wf,Nat.le_refl _,fun _ _=>rfl⟩
theorem Gr.push {s:St} (wf:s.wf) (b:dO):Gr s (s.push b):=⟨St.bn wf _,by simp,fun c hc=>St.aI _ _ (by omega)⟩
theorem Gr.trans {a b c:St} (h:Gr a b) (k:Gr b c):Gr a c:=⟨k.1,Nat.le_trans h.2.1 k.2.1,fun x hx=>by rw [k.2.2 x (Nat.lt_of_lt_of_le hx h.2.1),h.2.2 x hx]⟩
theorem Gr.wf {s t:St} (h:Gr s t):t.wf:=h.1
theorem Gr.le {s t:St} (h:Gr s t):s.size<=t.size:=h.2.1
theorem Gr.get {s t:St} (h:Gr s t) {b:Nat} {x:dO} (hb:s.get b=some x) (wf:s.wf):t.get b=some x:=by rw [h.2.2 b (wf.lt hb),hb]
def own:S->Option Nat
 | .emp c _=>some c
 | .sl c _ _ _=>some c
 | _=>none
def Tb (e:Nat):S->Prop
 | .sl _ _ n (.known c)=>n<=c
 | .sl _ _ _ (.grown g)=>g=e
 | .emp _ g=>g=e
 | _=>True
structure Rd (e:Nat) (s:St) (x:S) (n:Nat) (vs:List S):Prop where
 len:vs.length=n*e
 rd:(n=0/\(x = .az\/(∃ c g,x = .emp c g)\/∃ c o cap,x = .sl c o 0 cap))\/∃ c o cap w rows,x = .sl c o n cap/\s.get c=some (.cells w rows)/\o+n*e<=rows.length/\(rows.drop o).take (n*e)=vs
 cap:Tb e x
structure Ow (e:Nat) (s:St) (x:S) (n:Nat) (vs:List S):Prop where
 len:vs.length=n*e
 ow:(x = .az/\n=0)\/(∃ c rows,x = .emp c e/\n=0/\s.get c=some (.cells true rows))\/∃ c rows cap,x = .sl c 0 n cap/\(cap = .grown e\/cap = .known n)/\s.get c=some (.cells true rows)/\n*e<=rows.length/\rows.take (n*e)=vs
section
variable {e n m:Nat} {s t:St} {x y:S} {vs ws:List S}
theorem Rd.nil (e:Nat) (s:St):Rd e s .az 0 []:=⟨by simp,.inl ⟨rfl,.inl rfl⟩,trivial⟩
theorem Ow.nil (e:Nat) (s:St):Ow e s .az 0 []:=⟨by simp,.inl ⟨rfl,rfl⟩⟩
theorem Ow.rd (h:Ow e s x n vs):Rd e s x n vs:=by
 refine ⟨h.len,?_,?_⟩
 · rcases h.ow with ⟨rfl,rfl⟩ | ⟨c,rows,rfl,rfl,_⟩ | ⟨c,rows,cap,rfl,hc,h1,h2,h3⟩
   · exact .inl ⟨rfl,.inl rfl⟩
   · exact .inl ⟨rfl,.inr (.inl ⟨c,e,rfl⟩)⟩
   · exact .inr ⟨c,0,_,true,rows,rfl,h1,by omega,by simpa using h3⟩
 · rcases h.ow with ⟨rfl,rfl⟩ | ⟨c,rows,rfl,rfl,_⟩ | ⟨c,rows,cap,rfl,hc,h1,h2,h3⟩
   · trivial
   · exact rfl
   · rcases hc with rfl | rfl
     · exact rfl
     · exact Nat.le_refl _
theorem Rd.lens (h:Rd e s x n vs):aA (Z x)=some (I .i64 n):=by
 rcases h.rd with ⟨rfl,rfl | ⟨c,g,rfl⟩ | ⟨c,o,cap,rfl⟩⟩ | ⟨c,o,cap,w,rows,rfl,_⟩<;>rfl
theorem Rd.src (h:Rd e s x n vs):eT e (Z x) s.get=some (n,vs):=by
 have hl:=h.len
 rcases h.rd with ⟨rfl,rfl | ⟨c,g,rfl⟩ | ⟨c,o,cap,rfl⟩⟩ | ⟨c,o,cap,w,rows,rfl,h1,h2,h3⟩
 · have:vs=[]:=List.eq_nil_of_length_eq_zero (by simpa using hl)
   subst this;rfl
 · have:vs=[]:=List.eq_nil_of_length_eq_zero (by simpa using hl)
   subst this;rfl
 · have:vs=[]:=List.eq_nil_of_length_eq_zero (by simpa using hl)
   subst this;simp [eT]
 · by_cases hz:n=0
   · subst hz
     have:vs=[]:=List.eq_nil_of_length_eq_zero (by simpa using hl)
     subst this;simp [eT]
   · simp only [eT,if_neg hz,h1,if_pos h2,h3]
theorem Rd.keep (h:Rd e s x n vs) (hk:∀ c,own x=some c->t.get c=s.get c):Rd e t x n vs:=by
 refine ⟨h.len,?_,h.cap⟩
 rcases h.rd with h | ⟨c,o,cap,w,rows,rfl,h1,h2,h3⟩
 · exact .inl h
 · exact .inr ⟨c,o,cap,w,rows,rfl,by rw [hk c rfl];exact h1,h2,h3⟩
theorem Ow.keep (h:Ow e s x n vs) (hk:∀ c,own x=some c->t.get c=s.get c):Ow e t x n vs:=by
 refine ⟨h.len,?_⟩
 rcases h.ow with h | ⟨c,rows,rfl,rfl,h1⟩ | ⟨c,rows,cap,rfl,hc,h1,h2,h3⟩
 · exact .inl h
 · exact .inr (.inl ⟨c,rows,rfl,rfl,by rw [hk c rfl];exact h1⟩)
 · exact .inr (.inr ⟨c,rows,cap,rfl,hc,by rw [hk c rfl];exact h1,h2,h3⟩)
theorem Ow.lt (h:Ow e s x n vs) (wf:s.wf) {c:Nat} (hc:own x=some c):c<s.size:=by
 rcases h.ow with ⟨rfl,rfl⟩ | ⟨c',rows,rfl,rfl,h1⟩ | ⟨c',rows,cap,rfl,_,h1,h2,h3⟩
 · cases hc
 · cases hc;exact wf.lt h1
 · cases hc;exact wf.lt h1
theorem Rd.gr (h:Rd e s x n vs) (hx:∀ c,own x=some c->c<s.size) (g:Gr s t):Rd e t x n vs:=h.keep fun c hc=>g.2.2 c (hx c hc)
theorem Ow.gr (h:Ow e s x n vs) (wf:s.wf) (g:Gr s t):Ow e t x n vs:=h.keep fun c hc=>g.2.2 c (h.lt wf hc)
theorem xy (rows:List S) (o:Nat):aO rows o []=rows:=rfl
theorem Ow.append {by_:Nat} (h:Ow e s x n vs) (wf:s.wf) (he:0<e) (hs:eT e (Z y) s.get=some (m,ws)) (vc:ws.length=m*e) (hl:(n+m)*by_<=140737488355328) :
 ∃ x' t,aH e by_ (Z x) (Z y) s=some (Z x',t)/\t.wf/\s.size<=t.size/\Ow e t x' (n+m) (vs++ws)/\(∀ b,b<s.size->own x≠some b->t.get b=s.get b)/\(own x'=none\/own x'=own x\/∃ c,own x'=some c/\s.size<=c):=by
 have hne:e≠0:=by omega
 have hlv:=h.len
 have hlen:(vs++ws).length=(n+m)*e:=by rw [List.length_append,hlv,vc,Nat.add_mul]
 have hm:m*by_<=140737488355328:=Nat.le_trans (Nat.mul_le_mul_right _ (by omega)) hl
 rcases h.ow with ⟨rfl,rfl⟩ | ⟨c,rows,rfl,rfl,h1⟩ | ⟨c,rows,cap,rfl,hc,h1,h2,h3⟩
 · have hv:vs=[]:=List.eq_nil_of_length_eq_zero (by simpa using hlv)
   subst hv
   by_cases hz:m=0
   · subst hz
     have hw:ws=[]:=List.eq_nil_of_length_eq_zero (by simpa using vc)
     subst hw
     refine ⟨.az,s,?_,wf,Nat.le_refl _,⟨by simp,.inl ⟨rfl,rfl⟩⟩,fun _ _ _=>rfl,.inl rfl⟩
     unfold aH
     rw [hs]
     dsimp only
     rw [if_neg hne,if_pos rfl]
   · refine ⟨.sl s.size 0 m (.grown e),s.push (.cells true ws),?_,St.bn wf _,by simp,⟨hlen,.inr (.inr ⟨s.size,ws,_,by rw [Nat.zero_add],.inl rfl,St.aq _ _,by rw [Nat.zero_add,vc];exact Nat.le_refl _,by rw [Nat.zero_add,List.nil_append];exact List.take_of_length_le (by omega)⟩)⟩,fun b hb _=>St.aI _ _ (by omega),.inr (.inr ⟨_,rfl,Nat.le_refl _⟩)⟩
     unfold aH
     rw [hs]
     dsimp only
     rw [if_neg hne,if_neg hz,if_pos hm]
 · have mv:=wf.lt h1
   have hv:vs=[]:=List.eq_nil_of_length_eq_zero (by simpa using hlv)
   subst hv
   have hB:e=e/\m*by_<=140737488355328:=⟨rfl,hm⟩
   by_cases hz:m=0
   · subst hz
     have hw:ws=[]:=List.eq_nil_of_length_eq_zero (by simpa using vc)
     subst hw
     refine ⟨.emp c e,s,?_,wf,Nat.le_refl _,⟨by simp,.inr (.inl ⟨c,rows,rfl,rfl,h1⟩)⟩,fun _ _ _=>rfl,.inr (.inl rfl)⟩
     unfold aH
     rw [hs]
     dsimp only
     rw [if_neg hne,if_pos hB,if_pos rfl]
   · have hg:((s.set c .dead).push (.cells true ws)).get s.size=some (.cells true ws):=by
      have:=St.aq (s.set c .dead) (.cells true ws)
      rwa [St.size_set] at this
     refine ⟨.sl s.size 0 m (.grown e),(s.set c .dead).push (.cells true ws),?_,St.bn (St.wf_set wf mv _) _,by simp,⟨hlen,.inr (.inr ⟨s.size,ws,_,by rw [Nat.zero_add],.inl rfl,hg,by rw [Nat.zero_add,vc];exact Nat.le_refl _,by rw [Nat.zero_add,List.nil_append];exact List.take_of_length_le (by omega)⟩)⟩,fun b hb hbc => ?_,.inr (.inr ⟨_,rfl,Nat.le_refl _⟩)⟩
     · unfold aH
       rw [hs]
       dsimp only
       rw [if_neg hne,if_pos hB,if_neg hz,h1]
     · have:b≠c:=fun e=>hbc (by rw [e];rfl)
       rw [St.aI _ _ (by rw [St.size_set];omega),St.aj _ _ this]
 · have mv:=wf.lt h1
   have ZI:∀ q:St,q.size=s.size->(q.push (.cells true (vs++ws))).get s.size=some (.cells true (vs++ws)):=fun q hq=>by
    have:=St.aq q (.cells true (vs++ws))
    rwa [hq] at this
   have Iy:∀ q:St,q.size=s.size->Ow e (q.push (.cells true (vs++ws))) (.sl s.size 0 (n+m) (.grown e)) (n+m) (vs++ws):=fun q hq =>
    ⟨hlen,.inr (.inr ⟨s.size,vs++ws,_,rfl,.inl rfl,ZI q hq,by omega,List.take_of_length_le (by omega)⟩)⟩
   have Ug:0+n*e<=rows.length:=by omega
   rcases hc with rfl | rfl
   · have hB:e=e/\(n+m)*by_<=140737488355328:=⟨rfl,hl⟩
     by_cases hz:m=0
     · subst hz
       have hw:ws=[]:=List.eq_nil_of_length_eq_zero (by simpa using vc)
       subst hw
       refine ⟨.sl c 0 n (.grown e),s,?_,wf,Nat.le_refl _,⟨by simpa using hlv,.inr (.inr ⟨c,rows,_,rfl,.inl rfl,h1,h2,by simpa using h3⟩)⟩,fun _ _ _=>rfl,.inr (.inl rfl)⟩
       unfold aH
       rw [hs]
       dsimp only
       rw [if_neg hne,if_pos hB,if_pos rfl]
     · by_cases hf:0+(n+m)*e<=rows.length
       · have aab:(n+m)*e=n*e+m*e:=Nat.add_mul _ _ _
         refine ⟨.sl c 0 (n+m) (.grown e),s.set c (.cells true (aO rows (0+n*e) ws)),?_,St.wf_set wf mv _,by simp,⟨hlen,.inr (.inr ⟨c,_,_,rfl,.inl rfl,St.ar _ _ _,?_,?_⟩)⟩,fun b hb hbc => ?_,.inr (.inl rfl)⟩
         · unfold aH
           rw [hs]
           dsimp only
           rw [if_neg hne,if_pos hB,if_neg hz,h1]
           dsimp only
           rw [if_pos hf]
         · rw [bS _ _ _ (by omega)]
           simp
           omega
         · rw [bS _ _ _ (by omega),show 0+n*e=n*e by omega,h3]
           rw [List.take_append_of_le_length (by omega)]
           exact List.take_of_length_le (by omega)
         · have:b≠c:=fun e=>hbc (by rw [e];rfl)
           exact St.aj _ _ this
       · refine ⟨.sl s.size 0 (n+m) (.grown e),(s.set c .dead).push (.cells true (vs++ws)),?_,St.bn (St.wf_set wf mv _) _,by simp,Iy _ (by simp),fun b hb hbc => ?_,.inr (.inr ⟨_,rfl,Nat.le_refl _⟩)⟩
         · unfold aH
           rw [hs]
           dsimp only
           rw [if_neg hne,if_pos hB,if_neg hz,h1]
           dsimp only
           rw [if_neg hf,if_pos Ug,List.drop_zero,h3]
         · have:b≠c:=fun e=>hbc (by rw [e];rfl)
           rw [St.aI _ _ (by rw [St.size_set];omega),St.aj _ _ this]
   · by_cases hz:m=0
     · subst hz
       have hw:ws=[]:=List.eq_nil_of_length_eq_zero (by simpa using vc)
       subst hw
       have hq:true=true/\0+n*e+0*e<=rows.length:=⟨rfl,by omega⟩
       refine ⟨.sl c 0 n (.known n),s.set c (.cells true rows),?_,St.wf_set wf mv _,by simp,⟨by simpa using hlv,.inr (.inr ⟨c,rows,_,rfl,.inr rfl,St.ar _ _ _,h2,by simpa using h3⟩)⟩,fun b hb hbc => ?_,.inr (.inl rfl)⟩
       · unfold aH
         rw [hs]
         dsimp only
         rw [if_neg hne,if_pos hl,h1]
         dsimp only
         rw [if_pos (by omega),if_pos hq,xy]
         rfl
       · have:b≠c:=fun e=>hbc (by rw [e];rfl)
         exact St.aj _ _ this
     · refine ⟨.sl s.size 0 (n+m) (.grown e),s.push (.cells true (vs++ws)),?_,St.bn wf _,by simp,Iy _ rfl,fun b hb hbc=>St.aI _ _ (by omega),.inr (.inr ⟨_,rfl,Nat.le_refl _⟩)⟩
       unfold aH
       rw [hs]
       dsimp only
       rw [if_neg hne,if_pos hl,h1]
       dsimp only
       rw [if_neg (by omega),if_pos Ug,List.drop_zero,h3]
structure Fr (e:Nat) (s0 s:St) (x:S) (n:Nat) (vs:List S):Prop where
 gr:Gr s0 s
 ow:Ow e s x n vs
 new:∀ c,own x=some c->s0.size<=c/\c<s.size
theorem Fr.nil (e:Nat) {s:St} (wf:s.wf):Fr e s s .az 0 []:=⟨Gr.refl wf,Ow.nil e s,fun c hc=>by cases hc⟩
theorem Fr.rd {s0:St} (h:Fr e s0 s x n vs):Rd e s x n vs:=h.ow.rd
theorem Fr.kE {s0 t:St} (h:Fr e s0 s x n vs) (g:Gr s t):Fr e s0 t x n vs :=
 ⟨h.gr.trans g,h.ow.gr h.gr.1 g,fun c hc=>⟨(h.new c hc).1,Nat.lt_of_lt_of_le (h.new c hc).2 g.2.1⟩⟩
theorem Fr.from {s0 s1:St} (g:Gr s0 s1) (h:Fr e s1 s x n vs):Fr e s0 s x n vs :=
 ⟨g.trans h.gr,h.ow,fun c hc=>⟨Nat.le_trans g.2.1 (h.new c hc).1,(h.new c hc).2⟩⟩
theorem Fr.nq {s0:St} {by_:Nat} (h:Fr e s0 s x n vs) (he:0<e) (hs:eT e (Z y) s.get=some (m,ws)) (vc:ws.length=m*e) (hl:(n+m)*by_<=140737488355328) :
 ∃ x' t,aH e by_ (Z x) (Z y) s=some (Z x',t)/\Fr e s0 t x' (n+m) (vs++ws)/\s.size<=t.size/\(∀ b,b<s.size->own x≠some b->t.get b=s.get b)/\(own x'=none\/own x'=own x\/∃ c,own x'=some c/\s.size<=c):=by
 obtain ⟨⟨wf,hz,hk⟩,hb,ho⟩:=h
 obtain ⟨x',t,e1,q1,q2,q3,q4,q5⟩:=hb.append wf he hs vc hl
 refine ⟨x',t,e1,⟨⟨q1,by omega,fun b hb' => ?_⟩,q3,fun c hc => ?_⟩,q2,q4,q5⟩
 · rw [q4 b (by omega) (fun e=>by have:=ho b e;omega)]
   exact hk b hb'
 · have hlt:=q3.lt q1 hc
   rcases q5 with e | e | ⟨c',e,gY⟩
   · rw [e] at hc;cases hc
   · rw [e] at hc
     exact ⟨(ho c hc).1,hlt⟩
   · rw [e] at hc;cases hc;exact ⟨by omega,hlt⟩
theorem Fr.append {s0:St} {by_:Nat} (h:Fr e s0 s x n vs) (he:0<e) (hs:eT e (Z y) s.get=some (m,ws)) (vc:ws.length=m*e) (hl:(n+m)*by_<=140737488355328) :
 ∃ x' t,aH e by_ (Z x) (Z y) s=some (Z x',t)/\Fr e s0 t x' (n+m) (vs++ws)/\s.size<=t.size/\∀ b,b<s.size->own x≠some b->t.get b=s.get b:=by
 obtain ⟨x',t,a,b,c,d,_⟩:=h.nq he hs vc hl
 exact ⟨x',t,a,b,c,d⟩
theorem Fr.lit (e:Nat) {s:St} (wf:s.wf) {n:Nat} {vs:List S} (hv:vs.length=n*e):Fr e s (s.push (.cells true vs)) (.sl s.size 0 n (.known n)) n vs :=
 ⟨Gr.push wf _,⟨hv,.inr (.inr ⟨s.size,vs,_,rfl,.inr rfl,St.aq _ _,by omega,List.take_of_length_le (by omega)⟩)⟩,fun c hc=>by cases hc;exact ⟨Nat.le_refl _,by simp⟩⟩
theorem Rd.at (h:Rd e s x n vs) {j:Nat} {i:Int} (hi:i=j) (hj:j<n):∃ c p,av e (Z x) (I .i64 i)=some (Z (.ptr c p))/\(∀ f v,f<e->vs[j*e+f]? = some v->ab (Z (.ptr c (p+f))) s.get=some (Z v)) ∧
 aG e (Z (.ptr c p)) s.get=some (.v (.agg ((vs.drop (j*e)).take e))):=by
 rcases h.rd with ⟨rfl,_⟩ | ⟨b,o,cap,w,rows,rfl,h1,h2,h3⟩
 · omega
 · have hje:j*e+e<=n*e:=by
    have:(j+1)*e<=n*e:=Nat.mul_le_mul_right _ hj
    rwa [Nat.add_mul,Nat.one_mul] at this
   refine ⟨b,o+j*e,cZ hi hj,fun f v hf hv=>ai h1 ?_,?_⟩
   · rw [← h3,List.getElem?_take_of_lt (by omega),List.getElem?_drop] at hv
     rw [Nat.add_assoc]
     exact hv
   · have h4:o+j*e+e<=rows.length:=by omega
     have h5:(vs.drop (j*e)).take e=(rows.drop (o+j*e)).take e:=by
      rw [← h3,List.drop_take,List.take_take,List.drop_drop,Nat.min_eq_left (by omega)]
     simp only [aG,h1,if_pos h4,h5]
theorem Rd.xL (h:Rd 1 s x n vs) {j:Nat} {i:Int} {v:S} (hi:i=j) (hv:vs[j]? = some v):∃ p,av 1 (Z x) (I .i64 i)=some p/\ab p s.get=some (Z v):=by
 have hj:j<n:=by
  have:=(List.getElem?_eq_some_iff.1 hv).1
  have:=h.len
  omega
 obtain ⟨c,p,h1,h2,_⟩:=h.at hi hj
 exact ⟨_,h1,by have:=h2 0 v (by omega) (by simpa using hv);simpa using this⟩
theorem dS {len cap k:Nat} (h:k<=cap):cY len cap none (some (I .i64 k)) none=some (0,k,cap):=by
 have e:mN (I .i64 k) cap=some k:=by
  have h0:(0:Int)<=(k:Int):=by omega
  have h1:(k:Int)<=(cap:Int):=by omega
  simp [mN,h]
 delta cY
 dsimp only
 rw [e]
theorem rM {len cap lo hi:Nat} (h:lo<=hi) (k:hi<=cap):cY len cap (some (I .i64 lo)) (some (I .i64 hi)) none=some (lo,hi,cap):=by
 have e:mN (I .i64 hi) cap=some hi:=by
  have h0:(0:Int)<=(hi:Int):=by omega
  have h1:(hi:Int)<=(cap:Int):=by omega
  simp [mN,k]
 have e2:mN (I .i64 lo) hi=some lo:=by
  have h1:(lo:Int)<=(hi:Int):=by omega
  simp [mN,h]
 delta cY
 dsimp only
 rw [e]
 dsimp only
 rw [e2]
theorem df {len cap lo:Nat} (h:lo<=len) (k:len<=cap):cY len cap (some (I .i64 lo)) none none=some (lo,len,cap):=by
 have e2:mN (I .i64 lo) len=some lo:=by
  have h1:(lo:Int)<=(len:Int):=by omega
  simp [mN,h]
 delta cY
 dsimp only
 rw [e2]
theorem Rd.Bz (h:Rd e s x n vs) {lo hi:Nat} {l r:Option T} (hb:∀ len cap,n<=cap->len=n->cY len cap l r none=some (lo,hi,cap)) (h1:lo<=hi) (h2:hi<=n) :
 ∃ y,ax e (Z x) l r none=some (Z y)/\Rd e s y (hi-lo) ((vs.drop (lo*e)).take ((hi-lo)*e))/\(own y=none\/own y=own x):=by
 have hlv:=h.len
 have hmul:lo*e+(hi-lo)*e<=n*e:=by
  rw [← Nat.add_mul]
  exact Nat.mul_le_mul_right _ (by omega)
 have hl2:((vs.drop (lo*e)).take ((hi-lo)*e)).length=(hi-lo)*e:=by rw [List.length_take,List.length_drop];omega
 have hcap:=h.cap
 rcases h.rd with ⟨rfl,rfl | ⟨c,g,rfl⟩ | ⟨c,o,cap,rfl⟩⟩ | ⟨c,o,cap,w,rows,rfl,a1,a2,a3⟩
 · obtain rfl:hi=0:=by omega
   obtain rfl:lo=0:=by omega
   refine ⟨.az,?_,⟨hl2,.inl ⟨rfl,.inl rfl⟩,trivial⟩,.inl rfl⟩
   have:=hb 0 0 (Nat.le_refl _) rfl
   simp only [ax,this]
 · obtain rfl:hi=0:=by omega
   obtain rfl:lo=0:=by omega
   have hg:g=e:=hcap
   refine ⟨.emp c e,?_,⟨hl2,.inl ⟨rfl,.inr (.inl ⟨c,e,rfl⟩)⟩,rfl⟩,.inr rfl⟩
   have:=hb 0 0 (Nat.le_refl _) rfl
   simp only [ax,this,if_pos hg]
 · obtain rfl:hi=0:=by omega
   obtain rfl:lo=0:=by omega
   cases cap with
   | known k =>
     refine ⟨.sl c (if k=0 then o else o+0*e) 0 (.known (k-0)),?_,⟨hl2,.inl ⟨rfl,.inr (.inr ⟨_,_,_,rfl⟩)⟩,Nat.zero_le _⟩,.inr rfl⟩
     have:=hb 0 k (Nat.zero_le _) rfl
     simp only [ax,this]
   | grown g =>
     have hg:g=e:=hcap
     refine ⟨.emp c e,?_,⟨hl2,.inl ⟨rfl,.inr (.inl ⟨c,e,rfl⟩)⟩,rfl⟩,.inr rfl⟩
     have:=hb 0 0 (Nat.le_refl _) rfl
     simp only [ax,this,if_pos hg]
     rfl
 · have kZ:∀ o',o'=o+lo*e->(rows.drop o').take ((hi-lo)*e)=(vs.drop (lo*e)).take ((hi-lo)*e):=fun o' e'=>by
    rw [e',← a3,List.drop_take,List.take_take,List.drop_drop,Nat.min_eq_left (by omega)]
   cases cap with
   | known k =>
     have hk:n<=k:=hcap
     have Pz:=hb n k hk rfl
     by_cases eU:k=lo
     · have hz:hi-lo=0:=by omega
       refine ⟨.sl c o (hi-lo) (.known (k-lo)),?_,⟨hl2,.inl ⟨hz,.inr (.inr ⟨c,o,_,by rw [hz]⟩)⟩,by show hi-lo<=k-lo;omega⟩,.inr rfl⟩
       simp only [ax,Pz,if_pos eU]
     · refine ⟨.sl c (o+lo*e) (hi-lo) (.known (k-lo)),?_,⟨hl2,.inr ⟨c,_,_,w,rows,rfl,a1,by omega,kZ _ rfl⟩,by show hi-lo<=k-lo;omega⟩,.inr rfl⟩
       simp only [ax,Pz,if_neg eU]
   | grown g =>
     have hg:g=e:=hcap
     have Pz:=hb n n (Nat.le_refl _) rfl
     by_cases hl:lo<n
     · refine ⟨.sl c (o+lo*e) (hi-lo) (.grown e),?_,⟨hl2,.inr ⟨c,_,_,w,rows,rfl,a1,by omega,kZ _ rfl⟩,rfl⟩,.inr rfl⟩
       simp only [ax,Pz,if_pos hg,if_pos hl]
     · have hz:hi-lo=0:=by omega
       refine ⟨.emp c e,?_,⟨hl2,.inl ⟨hz,.inr (.inl ⟨c,e,rfl⟩)⟩,rfl⟩,.inr rfl⟩
       simp only [ax,Pz,if_pos hg,if_neg hl]
theorem Rd.piece (h:Rd e s x n vs) {lo hi:Nat} (h1:lo<=hi) (h2:hi<=n) :
 ∃ y,ax e (Z x) (some (I .i64 lo)) (some (I .i64 hi)) none=some (Z y)/\Rd e s y (hi-lo) ((vs.drop (lo*e)).take ((hi-lo)*e))/\(own y=none\/own y=own x) :=
 h.Bz (fun len cap hc hl=>rM h1 (by omega)) h1 h2
theorem Rd.upto (h:Rd e s x n vs) {hi:Nat} (h2:hi<=n) :
 ∃ y,ax e (Z x) none (some (I .i64 hi)) none=some (Z y)/\Rd e s y hi (vs.take (hi*e))/\(own y=none\/own y=own x):=by
 obtain ⟨y,a,b,c⟩:=h.Bz (lo:=0) (hi:=hi) (l:=none) (r:=some (I .i64 hi)) (fun len cap hc hl=>dS (by omega)) (Nat.zero_le _) h2
 exact ⟨y,a,by simpa using b,c⟩
theorem Rd.Bt (h:Rd e s x n vs) {lo:Nat} (h2:lo<=n) :
 ∃ y,ax e (Z x) (some (I .i64 lo)) none none=some (Z y)/\Rd e s y (n-lo) (vs.drop (lo*e))/\(own y=none\/own y=own x):=by
 obtain ⟨y,a,b,c⟩:=h.Bz (lo:=lo) (hi:=n) (l:=some (I .i64 lo)) (r:=none) (fun len cap hc hl=>by subst hl;exact df h2 hc) h2 (Nat.le_refl _)
 refine ⟨y,a,?_,c⟩
 have hl:=h.len
 have:(vs.drop (lo*e)).take ((n-lo)*e)=vs.drop (lo*e):=List.take_of_length_le (by rw [List.length_drop,Nat.sub_mul];omega)
 rwa [this] at b
end
section
variable {α:Type} {enc:α->List S} {e:Nat}
def cells (enc:α->List S) (l:List α):List S:=(l.map enc).flatten
@[simp] theorem QI:cells enc []=[]:=rfl
@[simp] theorem dC (a:α) (l:List α):cells enc (a::l)=enc a++cells enc l:=by simp [cells]
theorem fp (l r:List α):cells enc (l++r)=cells enc l++cells enc r:=by simp [cells]
theorem dJ (he:∀ a,(enc a).length=e):∀ l:List α,(cells enc l).length=l.length*e
 | []=>by simp
 | a::l=>by rw [dC,List.length_append,he,dJ he l,List.length_cons,Nat.add_mul,Nat.one_mul,Nat.add_comm]
theorem jP (he:∀ a,(enc a).length=e):∀ (k:Nat) (l:List α),(cells enc l).drop (k*e)=cells enc (l.drop k)
 | 0,l=>by simp
 | k+1,[]=>by simp
 | k+1,a::l=>by
   have h1:(enc a++cells enc l).drop e=cells enc l:=List.drop_left' (he a)
   rw [dC,List.drop_succ_cons,← jP he k l]
   conv=>rhs;rw [← h1]
   rw [List.drop_drop,Nat.add_mul,Nat.one_mul,Nat.add_comm]
theorem mR (he:∀ a,(enc a).length=e):∀ (k:Nat) (l:List α),(cells enc l).take (k*e)=cells enc (l.take k)
 | 0,l=>by simp
 | k+1,[]=>by simp
 | k+1,a::l=>by
   rw [dC,List.take_succ_cons,dC,← mR he k l,Nat.add_mul,Nat.one_mul]
   have h1:(enc a).length=e:=he a
   rw [List.take_append,List.take_of_length_le (by omega)]
   congr 2
   omega
theorem jy (he:∀ a,(enc a).length=e) {l:List α} {j:Nat} {a:α} (h:l[j]? = some a):((cells enc l).drop (j*e)).take e=enc a:=by
 rw [jP he,List.drop_eq_getElem_cons (List.getElem?_eq_some_iff.1 h).1,dC,(List.getElem?_eq_some_iff.1 h).2]
 rw [List.take_append_of_le_length (by rw [he];exact Nat.le_refl _)]
 exact List.take_of_length_le (by rw [he];exact Nat.le_refl _)
theorem lM (he:∀ a,(enc a).length=e) {l:List α} {j f:Nat} {a:α} (h:l[j]? = some a) (hf:f<e):(cells enc l)[j*e+f]? = (enc a)[f]? := by
 rw [← jy he h,List.getElem?_take_of_lt hf,List.getElem?_drop]
end
def U (bs:List UInt8):List S:=bs.map fun b => .int .u8 b.toNat
@[simp] theorem ng (bs:List UInt8):(U bs).length=bs.length:=by simp [U]
theorem rL (a b:List UInt8):U (a++b)=U a++U b:=by simp [U]
theorem Ru (bs:List UInt8) (j:Nat):(U bs)[j]? = (bs[j]?).map fun b=>S.int .u8 b.toNat:=by simp [U]
theorem jJ (bs:List UInt8) (n:Nat):(U bs).take n=U (bs.take n):=by simp [U,List.map_take]
theorem vW (bs:List UInt8) (n:Nat):(U bs).drop n=U (bs.drop n):=by simp [U,List.map_drop]
abbrev RB (s:St) (x:S) (bs:List UInt8):Prop:=Rd 1 s x bs.length (U bs)
abbrev FB (s0 s:St) (x:S) (bs:List UInt8):Prop:=Fr 1 s0 s x bs.length (U bs)
theorem jk (n a:Nat) (h:a<2 ^ n):(BitVec.ofInt n (a:Int)).toNat=a:=by
 rw [BitVec.toNat_ofInt]
 have:((a:Int)%((2 ^ n:Nat):Int))=a:=Int.emod_eq_of_lt (by omega) (by omega)
 rw [this]
 rfl
theorem fH (x:Nat):IntKind.u8.wrap x=((x%256:Nat):Int):=by
 unfold IntKind.wrap
 simp [IntKind.signed,IntKind.bits]
theorem wrap32 (x:Nat):IntKind.u32.wrap x=((x%4294967296:Nat):Int):=by
 unfold IntKind.wrap
 simp [IntKind.signed,IntKind.bits]
theorem wrap64 (x:Nat) (h:x<2 ^ 64):IntKind.u64.wrap x=(x:Int):=cf _ (by omega) (by omega)
theorem qC (x:Nat) (h:x<2 ^ 63):IntKind.i64.wrap x=(x:Int):=aB _ (by omega) (by omega)
theorem Of (a b:Nat) (ha:a<256) (hb:b<256):af .and (I .u8 a) (I .u8 b)=some (I .u8 ((a &&& b:Nat))):=by
 have h:a &&& b<256:=Nat.lt_of_le_of_lt Nat.and_le_left ha
 show some (I .u8 (IntKind.u8.wrap ((BitVec.ofInt 8 a &&& BitVec.ofInt 8 b).toNat:Nat)))=_
 rw [BitVec.toNat_and,jk 8 a ha,jk 8 b hb,fH,Nat.mod_eq_of_lt h]
theorem Tg (a b:Nat) (ha:a<256) (hb:b<256):af .or (I .u8 a) (I .u8 b)=some (I .u8 ((a ||| b:Nat))):=by
 have h:a ||| b<2 ^ 8:=Nat.or_lt_two_pow ha hb
 show some (I .u8 (IntKind.u8.wrap ((BitVec.ofInt 8 a ||| BitVec.ofInt 8 b).toNat:Nat)))=_
 rw [BitVec.toNat_or,jk 8 a ha,jk 8 b hb,fH,Nat.mod_eq_of_lt h]
theorem JW (a b:Nat) (ha:a<2 ^ 64) (hb:b<2 ^ 64):af .and (I .u64 a) (I .u64 b)=some (I .u64 ((a &&& b:Nat))):=by
 have h:a &&& b<2 ^ 64:=Nat.lt_of_le_of_lt Nat.and_le_left ha
 show some (I .u64 (IntKind.u64.wrap ((BitVec.ofInt 64 a &&& BitVec.ofInt 64 b).toNat:Nat)))=_
 rw [BitVec.toNat_and,jk 64 a ha,jk 64 b hb,wrap64 _ h]
theorem Iw (a b:Nat) (ha:a<2 ^ 64) (hb:b<2 ^ 64):af .or (I .u64 a) (I .u64 b)=some (I .u64 ((a ||| b:Nat))):=by
 have h:a ||| b<2 ^ 64:=Nat.or_lt_two_pow ha hb
 show some (I .u64 (IntKind.u64.wrap ((BitVec.ofInt 64 a ||| BitVec.ofInt 64 b).toNat:Nat)))=_
 rw [BitVec.toNat_or,jk 64 a ha,jk 64 b hb,wrap64 _ h]
theorem xA (a b:Nat) (h:a*2 ^ b<2 ^ 64) (hb:b<64):af .shl (I .u64 a) (I .u64 b)=some (I .u64 ((a*2 ^ b:Nat))):=by
 have e:min b 64=b:=by omega
 have h0:¬ ((b:Int)<0):=by omega
 have e2:(a:Int)*2 ^ b=((a*2 ^ b:Nat):Int):=by push_cast;rfl
 simp only [af,mO,if_neg h0,Int.toNat_natCast,IntKind.bits,e,e2,wrap64 _ h]
theorem eS (k:IntKind) (a b:Nat) (hb:b<=k.bits):af .shr (I k a) (I .u64 b)=some (I k ((a / 2 ^ b:Nat))):=by
 have e:min b k.bits=b:=by omega
 have h0:¬ ((b:Int)<0):=by omega
 have e2:(a:Int).fdiv (2 ^ b)=((a / 2 ^ b:Nat):Int):=by
  have:(2:Int) ^ b=((2 ^ b:Nat):Int):=by push_cast;rfl
  rw [this,Int.fdiv_eq_ediv_of_nonneg _ (Int.natCast_nonneg _)]
  exact (Int.natCast_ediv _ _).symm
 simp only [af,mO,if_neg h0,Int.toNat_natCast,e,e2]
def bN (n:Nat):List UInt8->Nat
 | []=>n
 | c::r=>bN ((n*257+c.toNat+1)%4294967291) r
def mA:Nat->Nat->List UInt8
 | 0,n=>[UInt8.ofNat n]
 | f+1,n=>if 128<=n then UInt8.ofNat (n%128+128)::mA f (n / 128) else [UInt8.ofNat n]
def aP (n:Nat):List UInt8:=mA 10 n
def four (n:Nat):List UInt8:=[UInt8.ofNat n,UInt8.ofNat (n / 256),UInt8.ofNat (n / 65536),UInt8.ofNat (n / 16777216)]
def nJ (bs:List UInt8) (at_:Nat):Nat->Nat->Nat->Option (Nat×Nat)
 | 0,_,_=>none
 | f+1,k,n=>match bs[at_+k]? with
   | none=>none
   | some c =>
     if k=9/\1<c.toNat then none else
     if 128<=c.toNat then nJ bs at_ f (k+1) (n ||| (c.toNat%128)*2 ^ (7*k)) else
     if 0<k/\c.toNat=0 then none else some (n ||| (c.toNat%128)*2 ^ (7*k),at_+k+1)
def jF (bs:List UInt8) (at_:Nat):Option (Nat×Nat):=if at_<=bs.length then nJ bs at_ 10 0 0 else none
theorem LZ {bs:List UInt8} {at_:Nat}:∀ (f k n:Nat) {r:Nat×Nat},nJ bs at_ f k n=some r->at_+k<r.2/\r.2<=bs.length:=by
 intro f
 induction f with
 | zero=>intro k n r h;cases h
 | succ f ih =>
   intro k n r h
   unfold nJ at h
   split at h
   · cases h
   · rename_i c hc
     have hlt:=(List.getElem?_eq_some_iff.1 hc).1
     split at h
     · cases h
     · split at h
       · have:=ih _ _ h
         omega
       · split at h
         · cases h
         · cases h
           exact ⟨by show at_+k<at_+k+1;omega,by show at_+k+1<=bs.length;omega⟩
theorem rH {bs:List UInt8} {at_ v e:Nat} (h:jF bs at_=some (v,e)):at_<e/\e<=bs.length:=by
 unfold jF at h
 split at h
 · have:=LZ _ _ _ h
   exact ⟨by simpa using this.1,this.2⟩
 · cases h
theorem Oa.step (n c:Nat) (hn:n<4294967291) (hc:c<256) (u:St):(af .mul (I .u64 n) (I .u64 257)=some (I .u64 ((n*257:Nat))))/\af .add (I .u64 ((n*257:Nat))) (I .u64 c)=some (I .u64 ((n*257+c:Nat))) ∧
 af .add (I .u64 ((n*257+c:Nat))) (I .u64 1)=some (I .u64 ((n*257+c+1:Nat)))/\af .rem (I .u64 ((n*257+c+1:Nat))) (I .u64 4294967291)=some (I .u64 (((n*257+c+1)%4294967291:Nat))):=by
 refine ⟨?_,?_,?_,?_⟩
 · rw [MH,show ((n:Int)*257)=((n*257:Nat):Int) by omega,wrap64 _ (by omega)]
 · rw [dm,show (((n*257:Nat):Int)+c)=((n*257+c:Nat):Int) by omega,wrap64 _ (by omega)]
 · rw [dm,show (((n*257+c:Nat):Int)+1)=((n*257+c+1:Nat):Int) by omega,wrap64 _ (by omega)]
 · have e:((n*257+c+1:Nat):Int).tmod 4294967291=(((n*257+c+1)%4294967291:Nat):Int):=by
    rw [Int.tmod_eq_emod_of_nonneg (by omega)]
    omega
   have hP:(4294967291:Int)≠0:=by decide
   simp only [rj _ _ _ hP,e]
theorem j7:∀ (bs:List UInt8) (n:Nat),n<4294967291->bN n bs<4294967291:=by
 intro bs
 induction bs with
 | nil=>intro n h;exact h
 | cons c r ih=>intro n h;exact ih _ (Nat.mod_lt _ (by decide))
theorem IE:∀ (f n:Nat),(mA f n).length<=f+1:=by
 intro f
 induction f with
 | zero=>intro n;simp [mA]
 | succ f ih =>
   intro n
   unfold mA
   split
   · have:=ih (n / 128)
     simp
     omega
   · simp
theorem bG (n:Nat):(aP n).length<=11:=IE 10 n
theorem Tf:∀ m:Nat,m<256->(m ||| 128)=m%128+128:=by decide +kernel
theorem dU (n:Nat):(UInt8.ofNat n).toNat=n%256:=by simp
theorem MC (s:St) (c:Nat):aK s (aR 1 (aE [.int .u8 0] [(0,1,I .u8 c)]))=some (Z (.sl s.size 0 1 (.known 1)),s.push (.cells true [.int .u8 c])):=by
 simp [aK,aR,aE,V.cells,aO]
theorem P9 (s:St) (a b c d:Nat):aK s (aR 4 (aE [.int .u8 0,.int .u8 0,.int .u8 0,.int .u8 0] [(0,1,I .u8 a),(1,1,I .u8 b),(2,1,I .u8 c),(3,1,I .u8 d)])) =
 some (Z (.sl s.size 0 4 (.known 4)),s.push (.cells true [.int .u8 a,.int .u8 b,.int .u8 c,.int .u8 d])):=by
 simp [aK,aR,aE,V.cells,aO]
section
variable {s t:St} {x y:S} {bs cs:List UInt8}
theorem RB.sW (h:RB s x bs):aA (Z x)=some (I .i64 bs.length):=h.lens
theorem RB.Dl (h:RB s x bs) {j:Nat} {n:Int} {c:UInt8} (hn:n=j) (hc:bs[j]? = some c):∃ p,av 1 (Z x) (I .i64 n)=some p/\ab p s.get=some (I .u8 c.toNat) :=
 Rd.xL h hn (by rw [Ru,hc];rfl)
theorem vN:∀ bs:List UInt8,j8 (U bs)=some bs
 | []=>rfl
 | b::r=>by
   have ih:=vN r
   show j8 (.int .u8 b.toNat::U r)=_
   simp [j8,ih]
theorem RB.str (h:RB s x bs):bX (Z x) s.get=some (Z (.str bs)):=by
 have MR:bs.length=0->bs=[]:=fun e=>List.eq_nil_of_length_eq_zero e
 rcases h.rd with ⟨h0,rfl | ⟨c,g,rfl⟩ | ⟨c,o,cap,rfl⟩⟩ | ⟨c,o,cap,w,vs,rfl,h1,h2,h3⟩
 · rw [MR h0];rfl
 · rw [MR h0];rfl
 · rw [MR h0];simp [bX]
 · by_cases hz:bs.length=0
   · rw [MR hz];simp [bX]
   · rw [Nat.mul_one] at h2 h3
     simp only [bX,if_neg hz,h1,if_pos h2,h3,vN]
theorem FB.app {s0:St} (h:FB s0 s x bs) (hy:RB s y cs) (hl:bs.length+cs.length<=1000000) :
 ∃ x' t,aH 1 1 (Z x) (Z y) s=some (Z x',t)/\FB s0 t x' (bs++cs)/\s.size<=t.size/\∀ b,b<s.size->own x≠some b->t.get b=s.get b:=by
 obtain ⟨x',t,e,f,g,k⟩:=h.append (by_:=1) (by omega) hy.src hy.len (by omega)
 exact ⟨x',t,e,by unfold FB;rw [rL,List.length_append];exact f,g,k⟩
theorem FB.Og {s0:St} (h:FB s0 s x bs) (hy:RB s y cs) (hl:bs.length+cs.length<=1000000) :
 ∃ x' t,aH 1 1 (Z x) (Z y) s=some (Z x',t)/\FB s0 t x' (bs++cs)/\s.size<=t.size/\(∀ b,b<s.size->own x≠some b->t.get b=s.get b)/\(own x'=none\/own x'=own x\/∃ c,own x'=some c/\s.size<=c):=by
 obtain ⟨x',t,e,f,g,k,n⟩:=h.nq (by_:=1) (by omega) hy.src hy.len (by omega)
 exact ⟨x',t,e,by unfold FB;rw [rL,List.length_append];exact f,g,k,n⟩
theorem BT (bs:List UInt8):fF bs=U bs:=rfl
theorem FB.Oh {s0:St} (h:FB s0 s x bs) (hl:bs.length+cs.length<=1000000) :
 ∃ x' t,aH 1 1 (Z x) (Z (.str cs)) s=some (Z x',t)/\FB s0 t x' (bs++cs)/\s.size<=t.size/\∀ b,b<s.size->own x≠some b->t.get b=s.get b:=by
 obtain ⟨x',t,e,f,g,k⟩:=h.append (by_:=1) (y := .str cs) (m:=cs.length) (ws:=U cs) (by omega) (by simp [eT,BT]) (by simp) (by omega)
 exact ⟨x',t,e,by unfold FB;rw [rL,List.length_append];exact f,g,k⟩
theorem FB.lit {s0:St} (h:FB s0 s x bs) (hl:bs.length+cs.length<=1000000) :
 ∃ x' t,aH 1 1 (Z x) (Z (.sl s.size 0 cs.length (.known cs.length))) (s.push (.cells true (U cs)))=some (Z x',t)/\FB s0 t x' (bs++cs)/\s.size<=t.size/\∀ b,b<s.size->own x≠some b->t.get b=s.get b:=by
 have l:=Fr.lit 1 h.gr.1 (n:=cs.length) (vs:=U cs) (by simp)
 obtain ⟨x',t,e,f,hz,k⟩:=FB.app (Fr.kE h l.gr) (cs:=cs) l.rd hl
 exact ⟨x',t,e,f,Nat.le_trans l.gr.2.1 hz,fun b hb uh=>by rw [k b (Nat.lt_of_lt_of_le hb l.gr.2.1) uh];exact l.gr.2.2 b hb⟩
end
theorem MB (bs:List UInt8):cj (Z (.str bs))=some (I .i64 bs.length):=rfl
theorem wg {bs:List UInt8} {j:Nat} {n:Int} {c:UInt8} (hn:n=j) (hc:bs[j]? = some c):dM (Z (.str bs)) (I .i64 n)=some (I .u8 c.toNat):=by
 subst hn
 have hj:=(List.getElem?_eq_some_iff.1 hc).1
 have e:nh (I .i64 (j:Int)) bs.length=some j:=by
  simp [nh,hj]
 show (match nh (I .i64 (j:Int)) bs.length with
  | some j=>match bs[j]? with
    | some b=>some (I .u8 b.toNat)
    | none=>none
  | none=>none)=_
 rw [e]
 dsimp only
 rw [hc]
theorem gl (a b:List UInt8) (h:a.length+b.length<=100000):af .add (Z (.str a)) (Z (.str b))=some (Z (.str (a++b))):=by
 have:¬ ((a.length+b.length:Nat):Int)>IntKind.i64.max:=by
  show ¬ _>(9223372036854775807:Int)
  omega
 simp only [af,Dg,if_neg this]
end Go.Abs
namespace Go.Abs.F
open Go Go.Abs
set_option linter.unusedVariables false
section
variable {s:St} {a:T} {c e:Nat} {rows:List (List S)}
end
end Go.Abs.F
namespace Go.Abs
open Go Go.Abs.F
set_option linter.unusedVariables false
abbrev Bs:=List UInt8
def nc (c:UInt8):Bs->Nat->Int
 | [],_ => -1
 | b::r,k=>match Nat.beq b.toNat c.toNat with
   | true=>(k:Int)
   | false=>nc c r (k+1)
def eG (c:UInt8):Bs->Nat
 | []=>0
 | b::r=>match Nat.beq b.toNat c.toNat with
   | true=>eG c r+1
   | false=>eG c r
def si (b:UInt8):List Bs->List Bs
 | []=>[[b]]
 | h::t=>(b::h)::t
def bH (c:UInt8):Bs->List Bs
 | []=>[[]]
 | b::r=>match Nat.beq b.toNat c.toNat with
   | true=>[]::bH c r
   | false=>si b (bH c r)
def gP (sep:Bs):List Bs->Bs
 | []=>[]
 | [x]=>x
 | x::y::r=>x++sep++gP sep (y::r)
theorem HO (c b:UInt8) (r:Bs) (k:Nat):nc c (b::r) k=match Nat.beq b.toNat c.toNat with
 | true=>(k:Int)
 | false=>nc c r (k+1):=rfl
theorem Dt (c b:UInt8) (r:Bs):eG c (b::r)=match Nat.beq b.toNat c.toNat with
 | true=>eG c r+1
 | false=>eG c r:=rfl
theorem zF (c b:UInt8) (r:Bs):bH c (b::r)=match Nat.beq b.toNat c.toNat with
 | true=>[]::bH c r
 | false=>si b (bH c r):=rfl
theorem rV {b c:UInt8}:Nat.beq b.toNat c.toNat=true↔b=c:=by
 constructor
 · intro h;exact UInt8.toNat.inj (Nat.eq_of_beq_eq_true h)
 · rintro rfl;exact Nat.beq_refl _
theorem pR {b c:UInt8}:Nat.beq b.toNat c.toNat=false↔b≠c:=by
 constructor
 · intro h e;rw [rV.2 e] at h;cases h
 · intro h;cases hb:Nat.beq b.toNat c.toNat with
   | true=>exact absurd (rV.1 hb) h
   | false=>rfl
theorem HP (c:UInt8):∀ (l:Bs) (k:Nat),nc c l k = -1\/(k:Int)<=nc c l k
 | [],_ => .inl rfl
 | b::r,k=>by
   unfold nc
   cases Nat.beq b.toNat c.toNat with
   | true=>exact .inr (Int.le_refl _)
   | false=>rcases HP c r (k+1) with h | h
            · exact .inl h
            · exact .inr (by show (k:Int)<=nc c r (k+1);omega)
theorem fT (c:UInt8):∀ (l:Bs) (k:Nat),nc c l k=if nc c l 0 = -1 then -1 else nc c l 0+k
 | [],k=>rfl
 | b::r,k=>by
   unfold nc
   cases hb:Nat.beq b.toNat c.toNat with
   | true=>simp
   | false =>
     dsimp only
     rw [fT c r (k+1),fT c r (0+1)]
     split
     · simp
     · rename_i h
       have:=(HP c r 0).resolve_left h
       rw [if_neg (by omega)]
       omega
theorem CG (c:UInt8):∀ l:Bs,Lib.indexByte l c=nc c l 0
 | []=>rfl
 | b::r=>by
   unfold Lib.indexByte nc
   rw [CG c r]
   by_cases h:b=c
   · subst h;simp
   · have hb:=pR.2 h
     have iu:(b == c)=false:=by simpa using h
     rw [iu,hb]
     dsimp only
     rw [fT c r (0+1)]
     by_cases h1:nc c r 0 = -1
     · simp [h1]
     · have:(nc c r 0 == -1)=false:=by simpa using h1
       simp [this,h1]
theorem yj (c:UInt8):∀ l:Bs,Lib.countByte l c=eG c l
 | []=>rfl
 | b::r=>by
   have ih:=yj c r
   unfold Lib.countByte at ih ⊢
   unfold eG
   by_cases h:b=c
   · subst h;rw [rV.2 rfl,List.count_cons_self,ih]
   · rw [pR.2 h,List.count_cons_of_ne (by simpa using h),ih]
theorem lN (c:UInt8):∀ l:Bs,eG c l<=l.length
 | []=>Nat.le_refl _
 | b::r=>by
   have:=lN c r
   unfold eG
   cases Nat.beq b.toNat c.toNat<;>simp<;>omega
theorem fY (c:UInt8):∀ l:Bs,(bH c l).length=eG c l+1
 | []=>rfl
 | b::r=>by
   have ih:=fY c r
   unfold bH eG
   cases Nat.beq b.toNat c.toNat with
   | true=>simp [ih]
   | false =>
     dsimp only
     cases hs:bH c r with
     | nil=>rw [hs] at ih;simp at ih
     | cons h t=>rw [hs] at ih;simpa [si] using ih
theorem qw (c:UInt8):∀ l:Bs,(nc c l 0 = -1/\eG c l=0/\bH c l=[l]) ∨
 ∃ m,m<l.length/\nc c l 0=m/\bH c l=l.take m::bH c (l.drop (m+1))/\eG c l=eG c (l.drop (m+1))+1
 | [] => .inl ⟨rfl,rfl,rfl⟩
 | b::r=>by
   rw [HO,Dt,zF]
   cases hb:Nat.beq b.toNat c.toNat with
   | true=>exact .inr ⟨0,by simp,rfl,by simp,by simp⟩
   | false =>
     dsimp only
     rcases qw c r with ⟨h1,h2,h3⟩ | ⟨m,h0,h1,h2,h3⟩
     · exact .inl ⟨by rw [fT c r (0+1),h1];rfl,h2,by rw [h3];rfl⟩
     · refine .inr ⟨m+1,by simp;omega,?_,?_,h3⟩
       · rw [fT c r (0+1),h1,if_neg (by omega)]
         omega
       · rw [h2];rfl
theorem Dw (c:UInt8) (l:Bs):(nc c l 0 = -1/\l.takeWhile (fun b => !Nat.beq b.toNat c.toNat)=l)\/∃ m,m<l.length/\nc c l 0=m/\l.takeWhile (fun b => !Nat.beq b.toNat c.toNat)=l.take m:=by
 induction l with
 | nil=>exact .inl ⟨rfl,rfl⟩
 | cons b r ih =>
   unfold nc
   cases hb:Nat.beq b.toNat c.toNat with
   | true=>exact .inr ⟨0,by simp,rfl,by simp [hb]⟩
   | false =>
     dsimp only
     rcases ih with ⟨h1,h2⟩ | ⟨m,h0,h1,h2⟩
     · exact .inl ⟨by rw [fT c r (0+1),h1];rfl,by rw [List.takeWhile_cons];simp [hb,h2]⟩
     · refine .inr ⟨m+1,by simp;omega,?_,by rw [List.takeWhile_cons];simp [hb,h2]⟩
       rw [fT c r (0+1),h1,if_neg (by omega)]
       omega
theorem m8 (c:UInt8):∀ l:Bs,((bH c l).map List.length).sum<=l.length
 | []=>by simp [bH]
 | b::r=>by
   have ih:=m8 c r
   unfold bH
   cases Nat.beq b.toNat c.toNat with
   | true=>simp;omega
   | false =>
     dsimp only
     cases hs:bH c r with
     | nil=>simp [si]
     | cons h t=>rw [hs] at ih;simp [si] at ih ⊢;omega
theorem sX:∀ (L:List Bs) (x:Bs),x∈L->x.length<=(L.map List.length).sum
 | [],x,h=>by cases h
 | y::r,x,h=>by
   rcases List.mem_cons.1 h with rfl | h
   · simp
   · have:=sX r x h
     simp
     omega
theorem BQ (c:UInt8) (l x:Bs) (h:x∈bH c l):x.length<=l.length:=by
 have h1:=m8 c l
 have h2:x.length<=((bH c l).map List.length).sum:=sX _ _ h
 omega
theorem pn (sep:Bs):∀ l:List Bs,Lib.join l sep=gP sep l
 | []=>rfl
 | [x]=>by rw [Lib.join_one];rfl
 | x::y::r=>by
   rw [show gP sep (x::y::r)=x++sep++gP sep (y::r) from rfl,← pn sep (y::r)]
   simp [Lib.join,List.intercalate,List.intersperse]
def cO:List Bs->Nat
 | []=>0
 | x::r=>x.length+cO r
theorem vg (sep:Bs):∀ l:List Bs,(gP sep l).length<=cO l+l.length*sep.length
 | []=>by simp [gP,cO]
 | [x]=>by simp [gP,cO]
 | x::y::r=>by
   have:=vg sep (y::r)
   simp only [gP,cO,List.length_append,List.length_cons] at this ⊢
   rw [Nat.add_mul]
   omega
theorem oo:∀ l:List Bs,cO l=(l.map List.length).sum
 | []=>rfl
 | x::r=>by simp [cO,oo r]
def bY (l:List Bs):List S:=l.map S.str
@[simp] theorem Je (l:List Bs):(bY l).length=l.length:=by simp [bY]
theorem jf (a b:List Bs):bY (a++b)=bY a++bY b:=by simp [bY]
theorem EE (l:List Bs) (n:Nat):(bY l).take n=bY (l.take n):=by simp [bY,List.map_take]
theorem zK (l:List Bs) (j:Nat):(bY l)[j]? = (l[j]?).map S.str:=by simp [bY]
abbrev RT (s:St) (x:S) (l:List Bs):Prop:=Rd 1 s x l.length (bY l)
abbrev FT (s0 s:St) (x:S) (l:List Bs):Prop:=Fr 1 s0 s x l.length (bY l)
theorem RT.TL {s:St} {x:S} {l:List Bs} (h:RT s x l) {j:Nat} {n:Int} {c:Bs} (hn:n=j) (hc:l[j]? = some c):∃ p,av 1 (Z x) (I .i64 n)=some p/\ab p s.get=some (Z (.str c)) :=
 Rd.xL h hn (by rw [zK,hc];rfl)
theorem FT.lit {s0 s:St} {x:S} {l:List Bs} {c:Bs} (h:FT s0 s x l) (hl:l.length<=1000000) :
 ∃ x' t,(∃ s',aK s (aR 1 (aE [.str []] [(0,1,Z (.str c))]))=some (Z (.sl s.size 0 1 (.known 1)),s')/\aH 1 16 (Z x) (Z (.sl s.size 0 1 (.known 1))) s'=some (Z x',t))/\FT s0 t x' (l++[c])/\s.size<=t.size/\∀ b,b<s.size->own x≠some b->t.get b=s.get b:=by
 have L:=Fr.lit 1 h.gr.1 (n:=1) (vs:=bY [c]) (by simp)
 obtain ⟨x',t,e,f,hz,k⟩:=(h.kE L.gr).append (by_:=16) (by omega) L.rd.src (by simp) (by omega)
 refine ⟨x',t,⟨s.push (.cells true (bY [c])),by simp [aK,aR,aE,V.cells,aO,bY],e⟩,?_,Nat.le_trans L.gr.2.1 hz,fun b hb uh=>by rw [k b (Nat.lt_of_lt_of_le hb L.gr.2.1) uh];exact L.gr.2.2 b hb⟩
 unfold FT
 rw [jf,List.length_append]
 exact f
@[simp] theorem T6 (a b:Bs):af .eql (Z (.str a)) (Z (.str b))=some (B (decide (a=b))):=by simp [af,Dg]
@[simp] theorem UL (a b:Bs):af .neq (Z (.str a)) (Z (.str b))=some (B (!decide (a=b))):=by simp [af,Dg]
@[simp] theorem Nx (a:Bs):cj (Z (.str a))=some (I .i64 a.length):=nz rfl
theorem jL {l:Bs} {m:Nat} {n:Int} (hn:n=m) (h:m<=l.length):bB (Z (.str l)) none (some (I .i64 n)) none=some (Z (.str (l.take m))):=by
 subst hn
 simp only [bB]
 rw [dS h]
 simp
theorem jM {l:Bs} {m:Nat} {n:Int} (hn:n=m) (h:m<=l.length):bB (Z (.str l)) (some (I .i64 n)) none none=some (Z (.str (l.drop m))):=by
 subst hn
 simp only [bB]
 rw [df h (Nat.le_refl _)]
 have:l.drop m=(l.drop m).take (l.length-m):=(List.take_of_length_le (by simp)).symm
 simp
end Go.Abs
namespace Go.Abs.F
open Go Go.Abs
def HQ (fs:List Nat) (g:Nat):ak:=fun f ts σ=>match fs.contains f with
 | true=>match ts with
   | [.v (.s (.str l)),.v (.s (.str [c]))]=>some (I .i64 (nc c l 0),σ)
   | _=>none
 | false=>match Nat.beq f g with
   | true=>match ts with
     | [.v (.s (.str l)),.v (.s (.str [c]))]=>some (I .i64 (eG c l:Nat),σ)
     | _=>none
   | false=>none
theorem DY {P:Program} {fs:List Nat} {g:Nat}
 (hf:∀ f∈fs,∀ (s:ByteArray) (c:UInt8) (w:World),Calls P f #[.string s,.string ⟨#[c]⟩] w fun e w'=>e = .returned (.int .i64 (Lib.indexByte s.data.toList c))/\w'=w)
 (hg:∀ (s:ByteArray) (c:UInt8) (w:World),Calls P g #[.string s,.string ⟨#[c]⟩] w fun e w'=>e = .returned (.int .i64 (Lib.countByte s.data.toList c))/\w'=w):aM P (HQ fs g):=by
 refine lG fun f ts σ t τ h => ?_
 have key:∀ {ι:bP} {vs:List Value} {l:Bs} {c:UInt8},bf (aJ ι) [.v (.s (.str l)),.v (.s (.str [c]))] vs->∃ s:ByteArray,s.data.toList=l/\vs=[.string s,.string ⟨#[c]⟩]:=by
  intro ι vs l c hA
  cases hA with
  | cons a b=>cases b with
    | cons a' b' =>
      cases b'
      obtain ⟨s,rfl,hs⟩:=a
      obtain ⟨s',rfl,NQ⟩:=a'
      refine ⟨s,hs,?_⟩
      obtain ⟨⟨q⟩⟩:=s'
      simp at NQ
      subst NQ
      rfl
 unfold HQ at h
 split at h
 · rename_i hc
   split at h
   · rename_i l c
     cases h
     refine ⟨rfl,fun ι w vs hR hA => ?_⟩
     obtain ⟨s,rfl,rfl⟩:=key hA
     refine (hf f (by simpa using hc) s c w).mono ?_
     rintro e u ⟨rfl,rfl⟩
     exact ⟨_,rfl,Still.refl _,by rw [CG];rfl⟩
   · cases h
 · split at h
   · rename_i hb
     split at h
     · rename_i l c
       cases h
       have:=Nat.eq_of_beq_eq_true hb
       subst this
       refine ⟨rfl,fun ι w vs hR hA => ?_⟩
       obtain ⟨s,rfl,rfl⟩:=key hA
       refine (hg s c w).mono ?_
       rintro e u ⟨rfl,rfl⟩
       exact ⟨_,rfl,Still.refl _,by rw [yj];rfl⟩
     · cases h
   · cases h
theorem P4 {fs:List Nat} {g f:Nat} {l:Bs} {c:UInt8} {σ:St} (h:fs.contains f=true):HQ fs g f [Z (.str l),Z (.str [c])] σ=some (I .i64 (nc c l 0),σ):=by
 simp only [HQ,h]
theorem Mv {fs:List Nat} {g:Nat} {l:Bs} {c:UInt8} {σ:St} (h:fs.contains g=false):HQ fs g g [Z (.str l),Z (.str [c])] σ=some (I .i64 (eG c l:Nat),σ):=by
 simp only [HQ,h,Nat.beq_refl]
def lI:List S->Option (List Bs)
 | []=>some []
 | .str l::r=>match lI r with
   | some k=>some (l::k)
   | none=>none
 | _::_=>none
theorem qy:∀ l:List Bs,lI (bY l)=some l
 | []=>rfl
 | x::r=>by
   have ih:=qy r
   show lI (.str x::bY r)=_
   simp only [lI,ih]
theorem vL:∀ {vs:List S} {l:List Bs},lI vs=some l->vs=bY l
 | [],l,h=>by cases h;rfl
 | v::r,l,h=>by
   cases v with
   | str x =>
     unfold lI at h
     split at h
     · rename_i k hk
       cases h
       rw [vL hk]
       rfl
     · cases h
   | _=>simp [lI] at h
theorem qc {α:Type} {P:Nat->α->Prop}:∀ n:Nat,(∀ j,j<n->∃ x,P j x)->∃ xs:List α,xs.length=n/\∀ (j:Nat) x,xs[j]? = some x->P j x
 | 0,_=>⟨[],rfl,fun j x h=>by simp at h⟩
 | n+1,h=>by
   obtain ⟨xs,h1,h2⟩:=qc n fun j hj=>h j (by omega)
   obtain ⟨y,hy⟩:=h n (by omega)
   refine ⟨xs++[y],by simp [h1],fun j x hj => ?_⟩
   by_cases hjn:j<n
   · exact h2 j x (by rwa [List.getElem?_append_left (by omega)] at hj)
   · rw [List.getElem?_append_right (by omega)] at hj
     have:j=n:=by
      have:=(List.getElem?_eq_some_iff.1 hj).1
      simp at this
      omega
     subst this
     rw [h1,Nat.sub_self] at hj
     simp at hj
     subst hj
     exact hy
theorem Fz {α β:Type} {R:α->β->Prop} {a b:α} {us:List β} (h:bf R [a,b] us):∃ x y,us=[x,y]/\R a x/\R b y:=by
 cases h with
 | cons p q=>cases q with
   | cons p' q'=>cases q';exact ⟨_,_,rfl,p,p'⟩
def sV (g:Nat):ak:=fun f ts σ=>match Nat.beq f g with
 | false=>none
 | true=>match ts with
   | [x,.v (.s (.str sep))]=>match eT 1 x σ.get with
     | some (n,vs)=>match lI vs with
       | some l=>match x with
         | .v (.s (.str _))=>none
         | _=>match Nat.ble (cO l+l.length*sep.length) 1000000&&Nat.ble l.length 1000000 with
           | true=>some (Z (.str (gP sep l)),σ)
           | false=>none
       | none=>none
     | none=>none
   | _=>none
theorem yR {P:Program} {g:Nat}
 (h0:∀ (a:Option Addr) (c:Nat) (sep:ByteArray) (w:World),Calls P g #[.slice a 0 c,.string sep] w fun e w'=>e = .returned (.string ⟨#[]⟩)/\w'=w)
 (h1:∀ (bk o c:Nat) (xs:List ByteArray) (sep:ByteArray) (w:World),(∀ (j:Nat) x,xs[j]? = some x->w.cell? ⟨bk,o+j,none⟩=some (.string x))->bk<w.heap.size->xs.length<=140737488355328->xs.length<=c →
  (Lib.join (xs.map (·.data.toList)) sep.data.toList).length<=140737488355328 →
  Calls P g #[.slice (some ⟨bk,o,none⟩) xs.length c,.string sep] w fun e w'=>e = .returned (.string ⟨(Lib.join (xs.map (·.data.toList)) sep.data.toList).toArray⟩)/\Go.RowKit.Below w.heap.size w w'):aM P (sV g):=by
 refine lG fun f ts σ t τ h => ?_
 unfold sV at h
 split at h
 · cases h
 · rename_i hb
   have:=Nat.eq_of_beq_eq_true hb
   subst this
   split at h
   · rename_i x sep
     split at h
     · rename_i n vs hsrc
       split at h
       · rename_i l hl
         have hvs:=vL hl
         subst hvs
         split at h
         · cases h
         · rename_i Sj
           split at h
           · rename_i hle
             cases h
             rw [Bool.and_eq_true] at hle
             have aal:=Nat.le_of_ble_eq_true hle.1
             have hle2:=Nat.le_of_ble_eq_true hle.2
             refine ⟨rfl,fun ι w us hR hA => ?_⟩
             obtain ⟨u0,u1,rfl,a,a'⟩:=Fz hA
             · · obtain ⟨sp,rfl,rfl⟩:=a'
                 have Ik:∀ (ad:Option Addr) (c:Nat),l=[]->Calls P f #[.slice ad 0 c,.string sp] w fun e u=>∃ v,e = .returned v/\Still w u/\aJ ι (Z (.str (gP sp.data.toList l))) v:=by
                  intro ad c e
                  subst e
                  refine (h0 ad c sp w).mono ?_
                  rintro e u ⟨rfl,rfl⟩
                  exact ⟨_,rfl,Still.refl _,⟨_,rfl,rfl⟩⟩
                 cases x with
                 | any=>cases hsrc
                 | eD _=>cases hsrc
                 | v y=>cases y with
                   | agg _=>cases hsrc
                   | s y=>cases y with
                     | az =>
                       simp only [eT,Option.some.injEq,Prod.mk.injEq] at hsrc
                       have hl0:l=[]:=by
                        cases l with
                        | nil=>rfl
                        | cons _ _=>simp [bY] at hsrc
                       have ha:u0=Value.slice none 0 0:=a
                       subst ha
                       exact Ik _ _ hl0
                     | emp i e =>
                       simp only [eT,Option.some.injEq,Prod.mk.injEq] at hsrc
                       have hl0:l=[]:=by
                        cases l with
                        | nil=>rfl
                        | cons _ _=>simp [bY] at hsrc
                       obtain ⟨L,o,c,_,rfl,_⟩:=a
                       exact Ik _ _ hl0
                     | str q=>exact absurd rfl (Sj q)
                     | sl i o m cap =>
                       have hv:∃ (L:Loc) (c:Nat),ι i=some L/\m<=c/\bf (aJ ι) [.v (.s (.sl i o m cap))] [Value.slice (some ⟨L.b,L.base+o,none⟩) m c]/\∃ v,v=Value.slice (some ⟨L.b,L.base+o,none⟩) m c/\v=u0:=by
                        cases cap with
                        | known c=>obtain ⟨L,e1,e2,e3⟩:=a;exact ⟨L,c,e1,e3,.cons ⟨L,e1,rfl,e3⟩ .nil,_,rfl,e2.symm⟩
                        | grown q=>obtain ⟨L,c,e1,e2,e3,e4⟩:=a;exact ⟨L,c,e1,e3,.cons ⟨L,c,e1,rfl,e3,e4⟩ .nil,_,rfl,e2.symm⟩
                       obtain ⟨L,c,hL,hmc,_,v,rfl,hvv⟩:=hv
                       subst hvv
                       by_cases hz:m=0
                       · subst hz
                         simp only [eT,if_true,Option.some.injEq,Prod.mk.injEq] at hsrc
                         have hl0:l=[]:=by
                          cases l with
                          | nil=>rfl
                          | cons _ _=>simp [bY] at hsrc
                         exact Ik _ _ hl0
                       · simp only [eT,if_neg hz] at hsrc
                         split at hsrc
                         · rename_i own rows hrows
                           split at hsrc
                           · rename_i aad
                             simp only [Option.some.injEq,Prod.mk.injEq] at hsrc
                             obtain ⟨rfl,hst⟩:=hsrc
                             obtain ⟨cs,e,fz,k1,k2,k3,k4,k5⟩:=hR.blk i L _ hL hrows
                             have Hj:m=l.length:=by
                              have:=congrArg List.length hst
                              rw [List.length_take,List.length_drop,Je] at this
                              omega
                             have hx:∃ xs:List ByteArray,xs.map (·.data.toList)=l/\∀ (j:Nat) x,xs[j]? = some x->w.cell? ⟨L.b,L.base+o+j,none⟩=some (.string x):=by
                              have hone:∀ j,j<l.length->∃ x:ByteArray,x.data.toList=l.getD j []/\w.cell? ⟨L.b,L.base+o+j,none⟩=some (.string x):=by
                               intro j hj
                               have h2:rows[o+j]? = some (.str (l.getD j [])):=by
                                have:((rows.drop o).take (m*1))[j]? = (bY l)[j]? := by rw [hst]
                                rw [List.getElem?_take_of_lt (by omega),List.getElem?_drop,zK,List.getElem?_eq_getElem hj] at this
                                rw [this]
                                simp [List.getD,hj]
                               obtain ⟨v,hv,x,rfl,hx⟩:=k4 _ _ h2
                               refine ⟨x,hx,?_⟩
                               unfold World.cell?
                               simp only [k1]
                               rw [Nat.add_assoc]
                               simpa using hv
                              obtain ⟨xs,x1,x2⟩:=qc l.length hone
                              refine ⟨xs,?_,fun j x hj=>(x2 j x hj).2⟩
                              apply List.ext_getElem?
                              intro j
                              by_cases hj:j<l.length
                              · have h3:xs[j]? = some xs[j]:=List.getElem?_eq_getElem (by omega)
                                rw [List.getElem?_map,h3,List.getElem?_eq_getElem hj,Option.map_some,(x2 j _ h3).1]
                                simp [List.getD,hj]
                              · rw [List.getElem?_eq_none (by simp;omega),List.getElem?_eq_none (by omega)]
                             obtain ⟨xs,hxs,hcell⟩:=hx
                             have hxl:xs.length=m:=by
                              have:=congrArg List.length hxs
                              simpa [← Hj] using this
                             have hlt:L.b<w.heap.size:=(Array.getElem?_eq_some_iff.1 k1).1
                             have hjl:=vg sp.data.toList l
                             have iu:(Lib.join (xs.map (·.data.toList)) sp.data.toList).length<=140737488355328:=by
                              rw [hxs,pn]
                              omega
                             have uU:=h1 L.b (L.base+o) c xs sp w hcell hlt (by omega) (by omega) iu
                             rw [hxl] at uU
                             refine uU.mono ?_
                             rintro e u ⟨rfl,mu⟩
                             refine ⟨_,rfl,Still.of mu,⟨_,rfl,?_⟩⟩
                             rw [hxs,pn]
                           · cases hsrc
                         · cases hsrc
                     | _=>cases hsrc
           · cases h
       · cases h
     · cases h
   · cases h
theorem HS {g:Nat} {x:S} {l:List Bs} {sep:Bs} {σ:St} (h:RT σ x l) (hb:cO l+l.length*sep.length<=1000000) (hl:l.length<=1000000):sV g g [Z x,Z (.str sep)] σ=some (Z (.str (gP sep l)),σ):=by
 have PQ:∀ q,(Z x:T) ≠ .v (.s (.str q)):=by
  intro q e
  rcases h.rd with ⟨_,rfl | ⟨c,g,rfl⟩ | ⟨c,o,cap,rfl⟩⟩ | ⟨c,o,cap,w,vs,rfl,_⟩<;>cases e
 have e1:=Nat.ble_eq_true_of_le hb
 have e2:=Nat.ble_eq_true_of_le hl
 unfold sV
 rw [Nat.beq_refl]
 dsimp only
 rw [h.src]
 dsimp only
 rw [qy]
 dsimp only
 rw [e1,e2]
 rcases h.rd with ⟨_,rfl | ⟨c,g,rfl⟩ | ⟨c,o,cap,rfl⟩⟩ | ⟨c,o,cap,w,vs,rfl,_⟩<;>rfl
end Go.Abs.F
