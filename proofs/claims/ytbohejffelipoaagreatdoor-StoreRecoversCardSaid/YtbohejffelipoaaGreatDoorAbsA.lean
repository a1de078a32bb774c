/-
  A library of our own, several texts in one: an abstract store for the model, and runs over it. Nothing here speaks of any program. No conditions.
-/
import Derived.LoopN
import Derived.Scope
import Derived.Orders
import Derived.RowKit3
import Derived.WalkKit
namespace Go.Abs
open Go
inductive Cap where
 | known (c:Nat)
 | grown (e:Nat)
 deriving DecidableEq
inductive S where
 | bool (b:Bool)
 | int (k:IntKind) (n:Int)
 | str (l:List UInt8)
 | ptr (i o:Nat)
 | bL
 | sl (i o len:Nat) (cap:Cap)
 | emp (i e:Nat)
 | ay
 | map (i:Nat)
 | mU
 | iY (f:FuncId) (fS:List (Nat×Nat))
 | va
 | iT
 | FP (t i n:Nat)
 | buf (e i n:Nat)
 | any
 deriving DecidableEq
inductive V where
 | s (x:S)
 | agg (l:List S)
 deriving DecidableEq
inductive T where
 | any
 | v (x:V)
 | eF (l:List V)
 deriving DecidableEq
inductive dV where
 | cells (own:Bool) (vs:List S)
 | map (es:List (S×V))
 | dP (g:Nat) (vs:List S)
 | dead
 deriving DecidableEq
structure Loc where
 b:Nat
 base:Nat
 size:Nat
 ty:TypeId
abbrev bV:=Nat->Option Loc
inductive aT {α β:Type} (R:α->β->Prop):List α->List β->Prop
 | nil:aT R [] []
 | cons {a b l m}:R a b->aT R l m->aT R (a::l) (b::m)
def bV.le (ι κ:bV):Prop:=∀ i L,ι i=some L->κ i=some L
theorem bV.le_refl (ι:bV):ι.le ι:=fun _ _ h=>h
theorem bV.le_trans {a b c:bV} (h:a.le b) (k:b.le c):a.le c:=fun i L e=>k i L (h i L e)
def cD:Value->Bool
 | .agg _ | .tuple _=>false
 | _=>true
def ba (ι:bV):S->Value->Prop
 | .bool b,v=>v = .bool b
 | .int k n,v=>v = .int k n
 | .str l,v=>∃ s:ByteArray,v = .string s/\s.data.toList=l
 | .ptr i o,v=>∃ L,ι i=some L/\v = .pointer (some ⟨L.b,L.base+o,none⟩)
 | .bL,v=>v = .pointer none
 | .sl i o len (.known c),v=>∃ L,ι i=some L/\v = .slice (some ⟨L.b,L.base+o,none⟩) len c/\len<=c
 | .sl i o len (.grown e),v=>∃ L c,ι i=some L/\v = .slice (some ⟨L.b,L.base+o,none⟩) len c/\len<=c/\L.base+o+c*e=L.size
 | .emp i e,v=>∃ L a c,ι i=some L/\v = .slice (some a) 0 c/\(c=0\/∃ o,a=⟨L.b,L.base+o,none⟩/\L.base+o+c*e=L.size)
 | .ay,v=>v = .slice none 0 0
 | .map i,v=>∃ L,ι i=some L/\v = .map (some L.b)
 | .mU,v=>v = .map none
 | .iY f fS,v=>∃ cs:List Value,v = .func (.func f) #[] cs.toArray/\aT (fun (p:Nat×Nat) (u:Value)=>∃ L,ι p.1=some L/\u = .pointer (some ⟨L.b,L.base+p.2,none⟩)) fS cs
 | .va,v=>v = .nilFunc
 | .iT,v=>v = .nilIface
 | .FP t i n,v=>∃ L,ι i=some L/\L.ty=t/\L.base=0/\L.size=n/\v = .pointer (some ⟨L.b,0,none⟩)
 | .buf e i n,v=>∃ L c,ι i=some L/\L.ty=e/\L.base=0/\L.size=c/\n<=c/\c<=9223372036854775807/\v = .slice (some ⟨L.b,0,none⟩) n c
 | .any,v=>cD v=true
def bS (ι:bV):V->Value->Prop
 | .s x,v=>ba ι x v
 | .agg l,v=>∃ cs:List Value,v = .agg cs.toArray/\aT (ba ι) l cs
def aK (ι:bV):T->Value->Prop
 | .any,_=>True
 | .v x,v=>bS ι x v
 | .eF l,v=>∃ vs:List Value,v = .tuple vs.toArray/\aT (bS ι) l vs
theorem cU {α β:Type} {R R':α->β->Prop} (h:∀ a b,R a b->R' a b) {l:List α} {m:List β} (k:aT R l m):aT R' l m:=by
 induction k with
 | nil=>exact .nil
 | cons a _ ih=>exact .cons (h _ _ a) ih
theorem aA {α β:Type} {R:α->β->Prop} {l:List α} {m:List β} (k:aT R l m):l.length=m.length:=by
 induction k with
 | nil=>rfl
 | cons _ _ ih=>simp [ih]
theorem bn {α β:Type} {R:α->β->Prop} {l:List α} {m:List β} (k:aT R l m) :
 ∀ (j:Nat) (x:α),l[j]? = some x->∃ y,m[j]? = some y/\R x y:=by
 induction k with
 | nil=>intro j x h;simp at h
 | cons a _ ih =>
   intro j x h
   cases j with
   | zero=>simp at h;subst h;exact ⟨_,rfl,a⟩
   | succ j=>simp at h;simpa using ih j x h
theorem lK {α β:Type} {R:α->β->Prop} {l:List α} {m:List β} (hl:l.length=m.length)
 (h:∀ (j:Nat) (x:α) (y:β),l[j]? = some x->m[j]? = some y->R x y):aT R l m:=by
 induction l generalizing m with
 | nil=>cases m with
   | nil=>exact .nil
   | cons _ _=>simp at hl
 | cons a l ih=>cases m with
   | nil=>simp at hl
   | cons b m =>
     refine .cons (h 0 a b rfl rfl) (ih (by simpa using hl) fun j x y hx hy=>h (j+1) x y (by simpa using hx) (by simpa using hy))
theorem bq {α β:Type} {R:α->β->Prop} {l l':List α} {m m':List β} (h:aT R l m) (k:aT R l' m') :
 aT R (l++l') (m++m'):=by
 induction h with
 | nil=>simpa using k
 | cons a _ ih=>exact .cons a ih
theorem ba.mono {ι κ:bV} (h:ι.le κ) {x:S} {v:Value} (k:ba ι x v):ba κ x v:=by
 cases x with
 | ptr i o=>obtain ⟨L,e,r⟩:=k;exact ⟨L,h _ _ e,r⟩
 | sl i o len cap =>
   cases cap with
   | known c=>obtain ⟨L,e,r⟩:=k;exact ⟨L,h _ _ e,r⟩
   | grown e=>obtain ⟨L,c,e,r⟩:=k;exact ⟨L,c,h _ _ e,r⟩
 | emp i e=>obtain ⟨L,o,c,e,r⟩:=k;exact ⟨L,o,c,h _ _ e,r⟩
 | map i=>obtain ⟨L,e,r⟩:=k;exact ⟨L,h _ _ e,r⟩
 | iY f fS =>
   obtain ⟨cs,e,r⟩:=k
   exact ⟨cs,e,cU (fun a b ⟨L,e,r⟩=>⟨L,h _ _ e,r⟩) r⟩
 | bool b=>exact k
 | int _ n=>exact k
 | str l=>exact k
 | bL=>exact k
 | ay=>exact k
 | mU=>exact k
 | va=>exact k
 | iT=>exact k
 | FP t i n=>obtain ⟨L,e,r⟩:=k;exact ⟨L,h _ _ e,r⟩
 | buf e i n=>obtain ⟨L,c,e,r⟩:=k;exact ⟨L,c,h _ _ e,r⟩
 | any=>exact k
theorem bS.mono {ι κ:bV} (h:ι.le κ) {x:V} {v:Value} (k:bS ι x v):bS κ x v:=by
 cases x with
 | s x=>exact ba.mono h k
 | agg l=>obtain ⟨cs,e,r⟩:=k;exact ⟨cs,e,cU (fun _ _=>ba.mono h) r⟩
theorem aK.mono {ι κ:bV} (h:ι.le κ) {x:T} {v:Value} (k:aK ι x v):aK κ x v:=by
 cases x with
 | any=>trivial
 | v x=>exact bS.mono h k
 | eF l=>obtain ⟨cs,e,r⟩:=k;exact ⟨cs,e,cU (fun _ _=>bS.mono h) r⟩
theorem ba.cD {ι:bV} {x:S} {v:Value} (k:ba ι x v):Abs.cD v=true/\v.cells = #[v]:=by
 cases x with
 | ptr i o=>obtain ⟨L,e,r⟩:=k;subst r;exact ⟨rfl,rfl⟩
 | sl i o len cap =>
   cases cap with
   | known c=>obtain ⟨L,e,r,_⟩:=k;subst r;exact ⟨rfl,rfl⟩
   | grown e=>obtain ⟨L,c,e,r,_⟩:=k;subst r;exact ⟨rfl,rfl⟩
 | emp i e=>obtain ⟨L,o,c,e,r,_⟩:=k;subst r;exact ⟨rfl,rfl⟩
 | map i=>obtain ⟨L,e,r⟩:=k;subst r;exact ⟨rfl,rfl⟩
 | iY f fS=>obtain ⟨cs,e,r⟩:=k;subst e;exact ⟨rfl,rfl⟩
 | str l=>obtain ⟨s,e,r⟩:=k;subst e;exact ⟨rfl,rfl⟩
 | bool b=>subst k;exact ⟨rfl,rfl⟩
 | int _ n=>subst k;exact ⟨rfl,rfl⟩
 | bL=>subst k;exact ⟨rfl,rfl⟩
 | ay=>subst k;exact ⟨rfl,rfl⟩
 | mU=>subst k;exact ⟨rfl,rfl⟩
 | va=>subst k;exact ⟨rfl,rfl⟩
 | iT=>subst k;exact ⟨rfl,rfl⟩
 | FP t i n=>obtain ⟨L,e,_,_,_,r⟩:=k;subst r;exact ⟨rfl,rfl⟩
 | buf e i n=>obtain ⟨L,c,e,_,_,_,_,_,r⟩:=k;subst r;exact ⟨rfl,rfl⟩
 | any=>refine ⟨k,?_⟩;cases v<;>first | rfl | cases k
def V.cells:V->List S
 | .s x=>[x]
 | .agg l=>l
theorem bS.cells {ι:bV} {x:V} {v:Value} (k:bS ι x v):aT (ba ι) x.cells v.cells.toList:=by
 cases x with
 | s x=>rw [(ba.cD k).2];exact .cons k .nil
 | agg l=>obtain ⟨cs,e,r⟩:=k;subst e;simpa [V.cells,Value.cells] using r
inductive Tr where
 | nil
 | node (l:Tr) (v:Option dV) (r:Tr)
def Tr.get:Tr->Nat->Option dV
 | .nil,_=>none
 | .node l v r,n=>match n with
   | 0=>v
   | m+1=>match Nat.beq (m%2) 0 with
     | true=>l.get (m / 2)
     | false=>r.get (m / 2)
def Tr.put (b:dV):Nat->Tr->Nat->Tr
 | 0,t,_=>t
 | f+1,.nil,n=>match n with
   | 0 => .node .nil (some b) .nil
   | m+1=>match Nat.beq (m%2) 0 with
     | true => .node (Tr.put b f .nil (m / 2)) none .nil
     | false => .node .nil none (Tr.put b f .nil (m / 2))
 | f+1,.node l v r,n=>match n with
   | 0 => .node l (some b) r
   | m+1=>match Nat.beq (m%2) 0 with
     | true => .node (Tr.put b f l (m / 2)) v r
     | false => .node l v (Tr.put b f r (m / 2))
theorem dt {n:Nat}:Nat.beq n 0=true↔n=0:=by
 constructor
 · intro h;exact Nat.eq_of_beq_eq_true h
 · rintro rfl;rfl
theorem dw {n:Nat}:Nat.beq n 0=false↔n≠0:=by
 constructor
 · intro h e;subst e;cases h
 · intro h;cases e:Nat.beq n 0 with
   | true=>exact (h (dt.1 e)).elim
   | false=>rfl
theorem Tr.Dn (b:dV):∀ (f:Nat) (t:Tr) (n k:Nat),n<f->(Tr.put b f t n).get k=if k=n then some b else t.get k:=by
 intro f
 induction f with
 | zero=>intro t n k h;omega
 | succ f ih =>
   intro t n k h
   cases t with
   | nil =>
     cases n with
     | zero =>
       cases k with
       | zero=>simp [Tr.put,Tr.get]
       | succ k=>simp only [Tr.put,Tr.get];split<;>simp
     | succ n =>
       have hlt:n / 2<f:=by omega
       cases hn:Nat.beq (n%2) 0 with
       | true =>
         have pg:=dt.1 hn
         cases k with
         | zero=>simp [Tr.put,Tr.get,hn]
         | succ k =>
           simp only [Tr.put,Tr.get,hn]
           cases hk:Nat.beq (k%2) 0 with
           | true =>
             have hk':=dt.1 hk
             simp only [ih _ _ _ hlt]
             by_cases e:k / 2=n / 2
             · rw [if_pos e,if_pos (by omega)]
             · rw [if_neg e,if_neg (by omega)];rfl
           | false =>
             have hk':=dw.1 hk
             rw [if_neg (by omega)]
       | false =>
         have pg:=dw.1 hn
         cases k with
         | zero=>simp [Tr.put,Tr.get,hn]
         | succ k =>
           simp only [Tr.put,Tr.get,hn]
           cases hk:Nat.beq (k%2) 0 with
           | true =>
             have hk':=dt.1 hk
             rw [if_neg (by omega)]
           | false =>
             have hk':=dw.1 hk
             simp only [ih _ _ _ hlt]
             by_cases e:k / 2=n / 2
             · rw [if_pos e,if_pos (by omega)]
             · rw [if_neg e,if_neg (by omega)];rfl
   | node l v r =>
     cases n with
     | zero =>
       cases k with
       | zero=>simp [Tr.put,Tr.get]
       | succ k=>simp only [Tr.put,Tr.get];split<;>simp
     | succ n =>
       have hlt:n / 2<f:=by omega
       cases hn:Nat.beq (n%2) 0 with
       | true =>
         have pg:=dt.1 hn
         cases k with
         | zero=>simp [Tr.put,Tr.get,hn]
         | succ k =>
           simp only [Tr.put,Tr.get,hn]
           cases hk:Nat.beq (k%2) 0 with
           | true =>
             have hk':=dt.1 hk
             simp only [ih _ _ _ hlt]
             by_cases e:k / 2=n / 2
             · rw [if_pos e,if_pos (by omega)]
             · rw [if_neg e,if_neg (by omega)]
           | false =>
             have hk':=dw.1 hk
             rw [if_neg (by omega)]
       | false =>
         have pg:=dw.1 hn
         cases k with
         | zero=>simp [Tr.put,Tr.get,hn]
         | succ k =>
           simp only [Tr.put,Tr.get,hn]
           cases hk:Nat.beq (k%2) 0 with
           | true =>
             have hk':=dt.1 hk
             rw [if_neg (by omega)]
           | false =>
             have hk':=dw.1 hk
             simp only [ih _ _ _ hlt]
             by_cases e:k / 2=n / 2
             · rw [if_pos e,if_pos (by omega)]
             · rw [if_neg e,if_neg (by omega)]
structure St where
 size:Nat
 tr:Tr
def St.get (σ:St) (i:Nat):Option dV:=σ.tr.get i
def St.set (σ:St) (i:Nat) (b:dV):St:=⟨σ.size,Tr.put b (i+1) σ.tr i⟩
def St.push (σ:St) (b:dV):St:=⟨σ.size+1,Tr.put b (σ.size+1) σ.tr σ.size⟩
def St.empty:St:=⟨0,.nil⟩
theorem St.Dp (σ:St) (i:Nat) (b:dV) (k:Nat):(σ.set i b).get k=if k=i then some b else σ.get k:=Tr.Dn b _ _ _ _ (Nat.lt_succ_self _)
theorem St.tG (σ:St) (b:dV) (k:Nat):(σ.push b).get k=if k=σ.size then some b else σ.get k:=Tr.Dn b _ _ _ _ (Nat.lt_succ_self _)
@[simp] theorem St.size_set (σ:St) (i:Nat) (b:dV):(σ.set i b).size=σ.size:=rfl
@[simp] theorem St.size_push (σ:St) (b:dV):(σ.push b).size=σ.size+1:=rfl
@[simp] theorem St.ar (σ:St) (i:Nat) (b:dV):(σ.set i b).get i=some b:=by rw [St.Dp,if_pos rfl]
theorem St.aj (σ:St) {i k:Nat} (b:dV) (h:k≠i):(σ.set i b).get k=σ.get k:=by rw [St.Dp,if_neg h]
@[simp] theorem St.aq (σ:St) (b:dV):(σ.push b).get σ.size=some b:=by rw [St.tG,if_pos rfl]
theorem St.aD (σ:St) {k:Nat} (b:dV) (h:k≠σ.size):(σ.push b).get k=σ.get k:=by rw [St.tG,if_neg h]
def live:Option dV->Prop
 | some (.cells true _)=>True
 | some (.map _)=>True
 | _=>False
def held:Option dV->Prop
 | some (.cells _ _)=>True
 | some (.map _)=>True
 | some (.dP _ _)=>True
 | _=>False
theorem live.held {b:Option dV} (h:live b):held b:=by
 match b,h with
 | some (.cells true _),_=>trivial
 | some (.map _),_=>trivial
def fA (ι:bV) (p:S×V) (e:MapEntry):Prop:=ba ι p.1 e.key/\bS ι p.2 e.val
theorem fA.mono {ι κ:bV} (h:ι.le κ) (p:S×V) (e:MapEntry) (k:fA ι p e):fA κ p e:=⟨k.1.mono h,k.2.mono h⟩
def dq (ι:bV) (L:Loc) (w:World):dV->Prop
 | .cells own vs=>∃ (c:Array Value) (e:TypeId) (fz:Nat×Nat),w.heap[L.b]? = some (.cells c e fz)/\c.size=L.size/\L.base+vs.length<=L.size ∧
  (∀ j x,vs[j]? = some x->∃ v,c[L.base+j]? = some v/\ba ι x v)/\(own=true->(fz.1=0/\fz.2=0/\e=L.ty)/\∀ (j:Nat) (v:Value),c[j]? = some v->cD v=true)
 | .map es=>∃ (fp:Array MapEntry) (pH:Nat),w.heap[L.b]? = some (.map fp pH)/\aT (fA ι) es fp.toList ∧
  fp.toList.Pairwise (fun x y=>x.born<y.born)/\∀ e∈fp.toList,e.born<pH
 | .dP g vs=>L.b=g/\∃ (c:Array Value) (e:TypeId) (fz:Nat×Nat),w.heap[L.b]? = some (.cells c e fz)/\c.size=vs.length/\∀ (j:Nat) (x:S),vs[j]? = some x->∃ v,c[j]? = some v/\ba ι x v
 | .dead=>True
theorem dq.mono {ι κ:bV} (h:ι.le κ) {L:Loc} {w:World} {b:dV} (k:dq ι L w b):dq κ L w b:=by
 cases b with
 | cells own vs =>
   obtain ⟨c,e,fz,h1,h2,h3,h4,h5⟩:=k
   exact ⟨c,e,fz,h1,h2,h3,fun j x hx=>let ⟨v,hv,r⟩:=h4 j x hx;⟨v,hv,r.mono h⟩,h5⟩
 | map es =>
   obtain ⟨fp,pH,h1,h2,h3⟩:=k
   exact ⟨fp,pH,h1,cU (fA.mono h) h2,h3⟩
 | dP g vs =>
   obtain ⟨h0,c,e,fz,h1,h2,h3⟩:=k
   exact ⟨h0,c,e,fz,h1,h2,fun j x hx=>let ⟨v,hv,r⟩:=h3 j x hx;⟨v,hv,r.mono h⟩⟩
 | dead=>trivial
theorem dq.congr {ι:bV} {L:Loc} {w u:World} {b:dV} (h:u.heap[L.b]? = w.heap[L.b]?) (k:dq ι L w b):dq ι L u b:=by
 cases b with
 | cells own vs=>obtain ⟨c,e,fz,h1,h2⟩:=k;exact ⟨c,e,fz,h.trans h1,h2⟩
 | map es=>obtain ⟨fp,pH,h1,h2⟩:=k;exact ⟨fp,pH,h.trans h1,h2⟩
 | dP g vs=>obtain ⟨h0,c,e,fz,h1,h2⟩:=k;exact ⟨h0,c,e,fz,h.trans h1,h2⟩
 | dead=>trivial
theorem dq.lt {ι:bV} {L:Loc} {w:World} {b:dV} (k:dq ι L w b) (h:held (some b)):L.b<w.heap.size:=by
 cases b with
 | cells own vs=>obtain ⟨c,e,fz,h1,h2⟩:=k;exact (Array.getElem?_eq_some_iff.1 h1).1
 | map es=>obtain ⟨fp,pH,h1,h2⟩:=k;exact (Array.getElem?_eq_some_iff.1 h1).1
 | dP g vs=>obtain ⟨_,c,e,fz,h1,h2⟩:=k;exact (Array.getElem?_eq_some_iff.1 h1).1
 | dead=>exact h.elim
structure Rel (ι:bV) (g:Nat->Option dV) (w:World):Prop where
 blk:∀ i L b,ι i=some L->g i=some b->dq ι L w b
 sep:∀ i j L M,ι i=some L->ι j=some M->live (g i)->held (g j)->i≠j->L.b≠M.b
 dP:∀ i n vs,g i=some (.dP n vs)->∃ L,ι i=some L
def St.wf (σ:St):Prop:=∀ i,σ.size<=i->σ.get i=none
theorem St.wf.lt {σ:St} (h:σ.wf) {i:Nat} {b:dV} (k:σ.get i=some b):i<σ.size:=by
 rcases Nat.lt_or_ge i σ.size with h' | h'
 · exact h'
 · rw [h i h'] at k;cases k
theorem St.bu {σ:St} (h:σ.wf) (b:dV):(σ.push b).wf:=by
 intro i hi
 simp only [St.size_push] at hi
 rw [St.aD _ _ (by omega)]
 exact h i (by omega)
theorem St.wf_set {σ:St} (h:σ.wf) {i:Nat} (hi:i<σ.size) (b:dV):(σ.set i b).wf:=by
 intro k hk
 simp only [St.size_set] at hk
 rw [St.aj _ _ (by omega)]
 exact h k hk
theorem St.uH:St.empty.wf:=fun _ _=>rfl
structure Ext (ι:bV) (σ:St) (w:World) (κ:bV) (τ:St) (u:World):Prop where
 size:σ.size<=τ.size
 agree:∀ i,(i<σ.size\/τ.size<=i)->κ i=ι i
 own:∀ i,i<σ.size->live (τ.get i)->live (σ.get i)
 hold:∀ i,i<σ.size->held (τ.get i)->held (σ.get i)
 ghost:∀ i,i<σ.size->ι i=none->τ.get i=σ.get i
 fresh:∀ i L,σ.size<=i->i<τ.size->κ i=some L->held (τ.get i)->w.heap.size<=L.b\/∃ j M,j<σ.size/\ι j=some M/\M.b=L.b/\live (σ.get j)
 os:u.os=w.os
 output:u.output=w.output
 hsize:w.heap.size<=u.heap.size
 keep:∀ k,k<w.heap.size->(∀ i L,i<σ.size->ι i=some L->live (σ.get i)->L.b≠k)->u.heap[k]? = w.heap[k]?
theorem Ext.refl (ι:bV) (σ:St) (w:World):Ext ι σ w ι σ w :=
 ⟨Nat.le_refl _,fun _ _=>rfl,fun _ _ h=>h,fun _ _ h=>h,fun _ _ _=>rfl,fun i _ h1 h2=>by omega,rfl,rfl,Nat.le_refl _,fun _ _ _=>rfl⟩
theorem Ext.trans {ι κ l:bV} {σ τ υ:St} {w u x:World} (h:Ext ι σ w κ τ u) (k:Ext κ τ u l υ x):Ext ι σ w l υ x where
 size:=Nat.le_trans h.size k.size
 agree:=fun i hi=>by
  rcases hi with hi | hi
  · rw [k.agree i (.inl (Nat.lt_of_lt_of_le hi h.size)),h.agree i (.inl hi)]
  · rw [k.agree i (.inr hi),h.agree i (.inr (Nat.le_trans k.size hi))]
 own:=fun i hi hl=>h.own i hi (k.own i (Nat.lt_of_lt_of_le hi h.size) hl)
 hold:=fun i hi hl=>h.hold i hi (k.hold i (Nat.lt_of_lt_of_le hi h.size) hl)
 ghost:=fun i hi hn=>by
  rw [k.ghost i (Nat.lt_of_lt_of_le hi h.size) (by rw [h.agree i (.inl hi)];exact hn),h.ghost i hi hn]
 fresh:=fun i L h1 h2 hL hl=>by
  rcases Nat.lt_or_ge i τ.size with hi | hi
  · rw [k.agree i (.inl hi)] at hL
    exact h.fresh i L h1 hi hL (k.hold i hi hl)
  · rcases k.fresh i L hi h2 hL hl with f | ⟨j,M,hj,hM,e,hlj⟩
    · exact .inl (Nat.le_trans h.hsize f)
    · rcases Nat.lt_or_ge j σ.size with hj' | hj'
      · rw [h.agree j (.inl hj')] at hM
        exact .inr ⟨j,M,hj',hM,e,h.own j hj' hlj⟩
      · have:=h.fresh j M hj' hj hM hlj.held
        rwa [e] at this
 os:=k.os.trans h.os
 output:=k.output.trans h.output
 hsize:=Nat.le_trans h.hsize k.hsize
 keep:=fun b hb hn=>by
  rw [k.keep b (Nat.lt_of_lt_of_le hb h.hsize),h.keep b hb hn]
  intro i L hi hL hl e
  rcases Nat.lt_or_ge i σ.size with hi' | hi'
  · rw [h.agree i (.inl hi')] at hL
    exact hn i L hi' hL (h.own i hi' hl) e
  · rcases h.fresh i L hi' hi hL hl.held with f | ⟨j,M,hj,hM,e',hlj⟩
    · omega
    · exact hn j M hj hM hlj (e'.trans e)
def gZ (ι:bV) (a b:Nat):Prop:=∀ i,a<=i->i<b->ι i=none
theorem Ext.le {ι κ:bV} {σ τ:St} {w u:World} (h:Ext ι σ w κ τ u) (hf:gZ ι σ.size τ.size):ι.le κ:=by
 intro i L hL
 rcases Nat.lt_or_ge i σ.size with hi | hi
 · rw [h.agree i (.inl hi)];exact hL
 · rcases Nat.lt_or_ge i τ.size with hi' | hi'
   · rw [hf i hi hi'] at hL;cases hL
   · rw [h.agree i (.inr hi')];exact hL
theorem gZ.sub {ι:bV} {a b a' b':Nat} (h:gZ ι a b) (h1:a<=a') (h2:b'<=b):gZ ι a' b':=fun i k l=>h i (Nat.le_trans h1 k) (Nat.lt_of_lt_of_le l h2)
theorem gZ.next {ι κ:bV} {σ τ:St} {w u:World} {n:Nat} (h:gZ ι σ.size n) (e:Ext ι σ w κ τ u):gZ κ τ.size n:=fun i k l=>by
 rw [e.agree i (.inr k)];exact h i (Nat.le_trans e.size k) l
theorem Rel.heap {ι:bV} {g:Nat->Option dV} {w u:World} (h:Rel ι g w) (e:u.heap=w.heap):Rel ι g u :=
 ⟨fun i L b h1 h2=>(h.blk i L b h1 h2).congr (by rw [e]),h.sep,h.dP⟩
theorem Ext.heap {ι:bV} {σ:St} {w u:World} (e:u.heap=w.heap) (h1:u.os=w.os) (h2:u.output=w.output):Ext ι σ w ι σ u :=
 ⟨Nat.le_refl _,fun _ _=>rfl,fun _ _ h=>h,fun _ _ h=>h,fun _ _ _=>rfl,fun i _ h1 h2=>by omega,h1,h2,by rw [e];exact Nat.le_refl _,fun _ _ _=>by rw [e]⟩
section loads
variable {P:Program} {ι:bV} {g:Nat->Option dV} {w:World}
theorem cell_of {i o:Nat} {L:Loc} {own:Bool} {vs:List S} {x:S} (h:Rel ι g w) (hL:ι i=some L) (hb:g i=some (.cells own vs)) (hx:vs[o]? = some x) :
 ∃ v,w.cell? ⟨L.b,L.base+o,none⟩=some v/\ba ι x v:=by
 obtain ⟨c,e,fz,h1,h2,h3,h4,h5⟩:=h.blk i L _ hL hb
 obtain ⟨v,hv,r⟩:=h4 o x hx
 exact ⟨v,by simp [World.cell?,h1,hv],r⟩
theorem rk {i o:Nat} {L:Loc} {own:Bool} {vs:List S} {x:S} (h:Rel ι g w) (hL:ι i=some L) (hb:g i=some (.cells own vs)) (hx:vs[o]? = some x) :
 ∃ v,(load ⟨L.b,L.base+o,none⟩).run P w = .ok v w/\ba ι x v:=by
 obtain ⟨v,hv,r⟩:=cell_of h hL hb hx
 exact ⟨v,by simp [load,Sem.run,hv],r⟩
theorem run_bind {α β:Type} (m:Sem α) (f:α->Sem β) (w:World):(m >>= f).run P w=match m.run P w with | .ok a u=>(f a).run P u | .halt h u => .halt h u:=by
 show (m.bind f).run P w=_
 induction m generalizing w with
 | pure a=>rfl
 | load md a k ih =>
   simp only [Sem.bind,Sem.run]
   (repeat' split)<;>simp_all
 | store md a v k ih =>
   cases v<;>simp only [Sem.bind,Sem.run]<;>first | rfl | ((repeat' split)<;>simp_all)
 | new o k ih=>simp only [Sem.bind,Sem.run,ih]
 | shape r k ih=>simp only [Sem.bind,Sem.run,ih]
 | freeze a n k ih=>simp only [Sem.bind,Sem.run,ih]
 | frozen a k ih=>simp only [Sem.bind,Sem.run,ih]
 | getObj r k ih =>
   simp only [Sem.bind,Sem.run]
   (repeat' split)<;>simp_all
 | setObj r o k ih =>
   simp only [Sem.bind,Sem.run]
   (repeat' split)<;>simp_all
 | choose q k ih =>
   simp only [Sem.bind,Sem.run]
   (repeat' split)<;>simp_all
 | sys c k ih=>simp only [Sem.bind,Sem.run,ih]
 | program k ih=>simp only [Sem.bind,Sem.run,ih]
 | mark m k ih=>simp only [Sem.bind,Sem.run,ih]
 | halt h=>rfl
theorem run_pure {α:Type} (a:α) (w:World):(pure a:Sem α).run P w = .ok a w:=rfl
theorem add_eq (b o n:Nat):(⟨b,o,none⟩:Addr).add n=⟨b,o+n,none⟩:=by
 unfold Addr.add
 by_cases h:n=0
 · simp [h]
 · simp [h]
theorem yu {i o:Nat} {L:Loc} {own:Bool} {vs:List S} (h:Rel ι g w) (hL:ι i=some L) (hb:g i=some (.cells own vs)) :
 ∀ (n k:Nat) (acc:Array Value) (xs:List S),(vs.drop (o+k)).take n=xs->xs.length=n →
   ∃ cs:List Value,(loadCellsFrom ⟨L.b,L.base+o,none⟩ k n acc).run P w = .ok (acc++cs.toArray) w/\aT (ba ι) xs cs:=by
 intro n
 induction n with
 | zero =>
   intro k acc xs he hl
   have:xs=[]:=List.eq_nil_of_length_eq_zero hl
   subst this
   exact ⟨[],by simp [loadCellsFrom,run_pure],.nil⟩
 | succ n ih =>
   intro k acc xs he hl
   cases xs with
   | nil=>simp at hl
   | cons x xs =>
     have hx:vs[o+k]? = some x:=by
      have:=congrArg (·[0]?) he
      simpa [List.getElem?_take,List.getElem?_drop] using this
     have hr:(vs.drop (o+(k+1))).take n=xs:=by
      have:=congrArg List.tail he
      rw [List.tail_cons] at this
      rw [← this]
      cases hd:vs.drop (o+k) with
      | nil=>rw [hd] at he;simp at he
      | cons y ys =>
        have:vs.drop (o+(k+1))=ys:=by
         rw [← Nat.add_assoc,← List.drop_drop,hd];rfl
        simp [this]
     obtain ⟨v,hv,r⟩:=rk (P:=P) h hL hb hx
     obtain ⟨cs,hcs,rs⟩:=ih (k+1) (acc.push v) xs hr (by simpa using hl)
     refine ⟨v::cs,?_,.cons r rs⟩
     simp only [loadCellsFrom,run_bind,add_eq,Nat.add_assoc,hv,hcs]
     simp
theorem run_loadCells {i o n:Nat} {L:Loc} {own:Bool} {vs xs:List S} (h:Rel ι g w) (hL:ι i=some L) (hb:g i=some (.cells own vs))
 (he:(vs.drop o).take n=xs) (hl:xs.length=n) :
 ∃ cs:List Value,(loadCells ⟨L.b,L.base+o,none⟩ n).run P w = .ok cs.toArray w/\aT (ba ι) xs cs:=by
 obtain ⟨cs,h1,h2⟩:=yu (P:=P) (o:=o) h hL hb n 0 #[] xs (by simpa using he) hl
 exact ⟨cs,by simpa [loadCells] using h1,h2⟩
end loads
def Xg (P:Program) (ι:bV) (σ:St) (w:World) {α:Type} (m:Sem α) (τ:St) (R:bV->α->Prop):Prop :=
 ∃ κ u a,m.run P w = .ok a u/\Ext ι σ w κ τ u/\Rel κ τ.get u/\R κ a
def rO (ι:bV) (n:Nat) (L:Loc):bV:=fun i=>if i=n then some L else ι i
theorem bB (ι:bV) (n:Nat) (L:Loc):rO ι n L n=some L:=by simp [rO]
theorem eM (ι:bV) {n i:Nat} (L:Loc) (h:i≠n):rO ι n L i=ι i:=by simp [rO,h]
theorem xX {ι:bV} {n:Nat} (L:Loc) (h:ι n=none):ι.le (rO ι n L):=by
 intro i M hM
 by_cases e:i=n
 · subst e;rw [h] at hM;cases hM
 · rw [eM _ _ e];exact hM
theorem Au (w:World) (o:Obj) (k:Nat) (h:k<w.heap.size):(w.heap.push o)[k]? = w.heap[k]? := by
 rw [Array.getElem?_push,if_neg (by omega)]
theorem mK (w:World) (o:Obj):(w.heap.push o)[w.heap.size]? = some o:=by simp
theorem kA {σ:St} {b:dV} {i:Nat} (h:i≠σ.size):(σ.push b).get i=σ.get i:=St.aD _ _ h
theorem cB {ι:bV} {xs:List S} {cs:List Value} (h:aT (ba ι) xs cs):∀ v∈cs,Abs.cD v=true:=by
 induction h with
 | nil=>intro v hv;cases hv
 | cons a _ ih =>
   intro v hv
   cases hv with
   | head=>exact (ba.cD a).1
   | tail _ hv=>exact ih v hv
theorem uP {ι:bV} {xs:List S} {cs:List Value} {more:Array Value} (h:aT (ba ι) xs cs) (hm:∀ v∈more.toList,cD v=true) (j:Nat) (v:Value) (hj:(cs.toArray++more)[j]? = some v):cD v=true:=by
 have hv:v∈(cs.toArray++more).toList:=by
  have:=Array.mem_of_getElem? hj
  exact Array.mem_toList_iff.2 this
 rw [Array.toList_append] at hv
 rcases List.mem_append.1 hv with hv | hv
 · exact cB h v hv
 · exact hm v hv
theorem iW {c c':Array Value} {cs:List Value} {k:Nat} (hc:∀ (j:Nat) (v:Value),c[j]? = some v->cD v=true) (hs:∀ v∈cs,cD v=true) (n:Nat)
 (hg:∀ j:Nat,c'[j]? = if k<=j/\j<n then cs[j-k]? else c[j]?) (j:Nat) (v:Value) (hj:c'[j]? = some v):cD v=true:=by
 rw [hg] at hj
 split at hj
 · exact hs v (List.mem_of_getElem? hj)
 · exact hc j v hj
theorem yq {ι:bV} {σ:St} {w:World} (h:Rel ι σ.get w) (wf:σ.wf) {i:Nat} {L:Loc} {b:dV} (hL:ι i=some L) (hb:σ.get i=some b) (hl:live (some b)) (o:Obj) (b':dV)
 (hh:held (some b')) (hb':dq ι L { w with heap:=w.heap.setIfInBounds L.b o } b') :
 Ext ι σ w ι (σ.set i b') { w with heap:=w.heap.setIfInBounds L.b o }/\Rel ι (σ.set i b').get { w with heap:=w.heap.setIfInBounds L.b o }:=by
 have hi:=wf.lt hb
 have hold:∀ k,k≠L.b->(w.heap.setIfInBounds L.b o)[k]? = w.heap[k]? := fun k hk=>Array.getElem?_setIfInBounds_ne (fun e=>hk e.symm)
 constructor
 · refine ⟨Nat.le_refl _,fun _ _=>rfl,?_,?_,?_,fun k M h1 h2=>by simp at h2;omega,rfl,rfl,by simp,?_⟩
   · intro k hk hlk
     by_cases e:k=i
     · subst e;rw [hb];exact hl
     · rwa [St.aj _ _ e] at hlk
   · intro k hk hlk
     by_cases e:k=i
     · subst e;rw [hb];exact hl.held
     · rwa [St.aj _ _ e] at hlk
   · intro k hk hnk
     by_cases e:k=i
     · subst e;rw [hL] at hnk;cases hnk
     · exact St.aj _ _ e
   · intro k hk hn
     refine hold k fun e => ?_
     exact hn i L hi hL (by rw [hb];exact hl) e.symm
 · constructor
   · intro k M c hM hc
     by_cases e:k=i
     · subst e
       rw [hL] at hM;cases hM
       rw [St.ar] at hc;cases hc
       exact hb'
     · rw [St.aj _ _ e] at hc
       have hr:=h.blk k M c hM hc
       cases c with
       | dead=>trivial
       | cells own vs=>exact hr.congr (hold _ (Ne.symm (h.sep i k L M hL hM (by rw [hb];exact hl) (by rw [hc];trivial) (Ne.symm e))))
       | map es=>exact hr.congr (hold _ (Ne.symm (h.sep i k L M hL hM (by rw [hb];exact hl) (by rw [hc];trivial) (Ne.symm e))))
       | dP g vs=>exact hr.congr (hold _ (Ne.symm (h.sep i k L M hL hM (by rw [hb];exact hl) (by rw [hc];trivial) (Ne.symm e))))
   · intro k j M N hM hN hlk Dt hne
     by_cases e:k=i
     · subst e
       rw [hL] at hM;cases hM
       have ej:j≠k:=Ne.symm hne
       rw [St.aj _ _ ej] at Dt
       exact h.sep k j L N hL hN (by rw [hb];exact hl) Dt hne
     · rw [St.aj _ _ e] at hlk
       by_cases ej:j=i
       · subst ej
         rw [hL] at hN;cases hN
         exact h.sep k j M L hM hL hlk (by rw [hb];exact hl.held) hne
       · rw [St.aj _ _ ej] at Dt
         exact h.sep k j M N hM hN hlk Dt hne
   · intro k n vs hg
     by_cases e:k=i
     · subst e;exact ⟨L,hL⟩
     · rw [St.aj _ _ e] at hg
       exact h.dP k n vs hg
def aO (vs:List S) (o:Nat):List S->List S
 | []=>vs
 | x::xs=>aO (vs.set o x) (o+1) xs
@[simp] theorem dR (vs:List S) (o:Nat) (xs:List S):(aO vs o xs).length=vs.length:=by
  induction xs generalizing vs o with
  | nil=>rfl
  | cons x xs ih=>simp [aO,ih]
theorem oV (xs:List S):∀ (vs:List S) (o j:Nat),o+xs.length<=vs.length →
 (aO vs o xs)[j]? = if o<=j/\j<o+xs.length then xs[j-o]? else vs[j]? := by
 induction xs with
 | nil=>intro vs o j h;simp only [aO,List.length_nil];rw [if_neg (by omega)]
 | cons x xs ih =>
   intro vs o j h
   simp only [List.length_cons] at h
   simp only [aO]
   rw [ih _ _ _ (by simp;omega)]
   by_cases h1:o+1<=j/\j<o+1+xs.length
   · rw [if_pos h1,if_pos (by simp;omega)]
     obtain ⟨k,rfl⟩:∃ k,j=o+1+k:=⟨j-(o+1),by omega⟩
     have e1:o+1+k-(o+1)=k:=by omega
     have e2:o+1+k-o=k+1:=by omega
     rw [e1,e2];simp
   · rw [if_neg h1]
     by_cases h2:j=o
     · subst h2
       rw [if_pos (by simp)]
       simp only [Nat.sub_self,List.getElem?_cons_zero]
       rw [List.getElem?_set_self (by omega)]
     · rw [if_neg (by simp;omega),List.getElem?_set_ne (Ne.symm h2)]
theorem bZ (vs:List S) (o:Nat) (xs:List S) (h:o+xs.length<=vs.length):aO vs o xs=vs.take o++xs++vs.drop (o+xs.length):=by
 apply List.ext_getElem?
 intro j
 rw [oV xs vs o j h]
 by_cases h1:j<o
 · rw [if_neg (by omega),List.append_assoc,List.getElem?_append_left (by simp;omega)]
   simp [List.getElem?_take,h1]
 · by_cases h2:j<o+xs.length
   · rw [if_pos (by omega),List.append_assoc,List.getElem?_append_right (by simp;omega),List.getElem?_append_left (by simp;omega)]
     have:min o vs.length=o:=by omega
     simp [this]
   · rw [if_neg (by omega),List.getElem?_append_right (by simp;omega),List.getElem?_drop]
     simp only [List.length_append,List.length_take]
     have:min o vs.length=o:=by omega
     rw [this]
     congr 1;omega
theorem iV (P:Program) (bk:Nat) (e:TypeId) (fz:Nat×Nat):∀ (cs:List Value) (off k:Nat) (w:World) (c:Array Value),
 w.heap[bk]? = some (.cells c e fz)->off+k+cs.length<=c.size->(∀ j,j<c.size->¬ (fz.1<=j/\j<fz.2))->(∀ v∈cs,Abs.cD v=true) →
 ∃ c',(storeCells ⟨bk,off,none⟩ cs k).run P w = .ok () { w with heap:=w.heap.setIfInBounds bk (.cells c' e fz) }/\c'.size=c.size ∧
   ∀ j:Nat,c'[j]? = if off+k<=j/\j<off+k+cs.length then cs[j-(off+k)]? else c[j]? := by
 intro cs
 induction cs with
 | nil =>
   intro off k w c hc _ _ _
   refine ⟨c,?_,rfl,fun j=>by rw [if_neg (by simp only [List.length_nil];omega)]⟩
   have:w.heap.setIfInBounds bk (.cells c e fz)=w.heap:=by
    apply Array.ext_getElem?
    intro j
    by_cases h:bk=j
    · subst h
      have hlt:=(Array.getElem?_eq_some_iff.1 hc).1
      rw [hc,Array.getElem?_setIfInBounds_self_of_lt hlt]
    · rw [Array.getElem?_setIfInBounds_ne h]
   rw [this]
   rfl
 | cons v cs ih =>
   intro off k w c hc hle hfz hone
   simp only [List.length_cons] at hle
   have hlt:=(Array.getElem?_eq_some_iff.1 hc).1
   have hcell:w.cell? ⟨bk,off+k,none⟩=some c[off+k]:=by
    simp [World.cell?,hc]
   have Yp:w.frozen? ⟨bk,off+k,none⟩=false:=by
    have:=hfz (off+k) (by omega)
    simp only [World.frozen?,hc]
    simpa using this
   have hv:=hone v (by simp)
   have RJ:(store ⟨bk,off+k,none⟩ v).run P w = .ok () (w.setCell ⟨bk,off+k,none⟩ v):=by
    cases v<;>simp [Abs.cD] at hv<;>simp [store,Sem.run,hcell,Yp]
   have gP:w.setCell ⟨bk,off+k,none⟩ v={ w with heap:=w.heap.setIfInBounds bk (.cells (c.setIfInBounds (off+k) v) e fz) }:=by
    unfold World.setCell
    congr 1
    apply Array.ext_getElem?
    intro j
    rw [Array.getElem?_modify]
    by_cases h:bk=j
    · subst h
      rw [if_pos rfl,hc,Array.getElem?_setIfInBounds_self_of_lt hlt]
      simp
    · rw [if_neg h,Array.getElem?_setIfInBounds_ne h]
   obtain ⟨c',hrun,hsz,ct⟩:=ih off (k+1) (w.setCell ⟨bk,off+k,none⟩ v) (c.setIfInBounds (off+k) v)
    (by rw [gP];simp [hlt]) (by simp;omega) (by simpa using hfz) (fun x hx=>hone x (by simp [hx]))
   refine ⟨c',?_,by simpa using hsz,?_⟩
   · simp only [storeCells,run_bind,add_eq,RJ,hrun]
     rw [gP]
     simp
   · intro j
     rw [ct j]
     by_cases h1:off+(k+1)<=j/\j<off+(k+1)+cs.length
     · rw [if_pos h1,if_pos (by simp;omega)]
       obtain ⟨m,rfl⟩:∃ m,j=off+(k+1)+m:=⟨j-(off+(k+1)),by omega⟩
       have e1:off+(k+1)+m-(off+(k+1))=m:=by omega
       have e2:off+(k+1)+m-(off+k)=m+1:=by omega
       rw [e1,e2];simp
     · rw [if_neg h1]
       by_cases h2:j=off+k
       · subst h2
         rw [if_pos (by simp)]
         rw [Array.getElem?_setIfInBounds_self_of_lt (by omega)]
         simp
       · rw [if_neg (by simp only [List.length_cons];omega),Array.getElem?_setIfInBounds_ne (Ne.symm h2)]
theorem dO {P:Program} {ι:bV} {σ:St} {w:World} (h:Rel ι σ.get w) (wf:σ.wf) {i o:Nat} {L:Loc} {vs xs:List S} {cs:List Value}
 (hL:ι i=some L) (hb:σ.get i=some (.cells true vs)) (hle:o+xs.length<=vs.length) (hx:aT (ba ι) xs cs) :
 Xg P ι σ w (storeCells ⟨L.b,L.base+o,none⟩ cs) (σ.set i (.cells true (aO vs o xs))) fun κ _=>κ=ι:=by
 obtain ⟨c,e,fz,h1,h2,h3,h4,h5⟩:=h.blk i L _ hL hb
 have hlen:=aA hx
 obtain ⟨c',hrun,hsz,ct⟩:=iV P L.b e fz cs (L.base+o) 0 w c h1 (by omega) (fun j hj hh=>by have:=(h5 rfl).1;omega) (cB hx)
 simp only [Nat.add_zero] at ct
 have hlt:=(Array.getElem?_eq_some_iff.1 h1).1
 obtain ⟨he,hr⟩:=yq h wf hL hb trivial (.cells c' e fz) (.cells true (aO vs o xs)) trivial (by
  refine ⟨c',e,fz,by simp [hlt],by omega,by simpa using h3,?_,fun _=>⟨by have:=(h5 rfl).1;omega,iW (h5 rfl).2 (cB hx) _ ct⟩⟩
  intro j x hj
  rw [oV xs vs o j hle] at hj
  rw [ct (L.base+j)]
  by_cases hin:o<=j/\j<o+xs.length
  · rw [if_pos hin] at hj
    obtain ⟨v,hv,r⟩:=bn hx _ _ hj
    rw [if_pos (by omega)]
    have e1:L.base+j-(L.base+o)=j-o:=by omega
    rw [e1]
    exact ⟨v,hv,r⟩
  · rw [if_neg hin] at hj
    rw [if_neg (by omega)]
    exact h4 j x hj)
 exact ⟨_,_,_,hrun,he,hr,rfl⟩
abbrev B (b:Bool):T := .v (.s (.bool b))
abbrev I (k:IntKind) (n:Int):T := .v (.s (.int k n))
abbrev Z (x:S):T := .v (.s x)
def GK:Value->Option S
 | .bool b=>some (.bool b)
 | .int k n=>some (.int k n)
 | .string s=>some (.str s.data.toList)
 | .pointer none=>some .bL
 | .slice none 0 0=>some .ay
 | .map none=>some .mU
 | .nilFunc=>some .va
 | .nilIface=>some .iT
 | _=>none
def sQ:List Value->Option (List S)
 | []=>some []
 | v::r=>match GK v,sQ r with
   | some x,some l=>some (x::l)
   | _,_=>none
def BC:Value->Option V
 | .agg cs=>(sQ cs.toList).map .agg
 | v=>(GK v).map .s
theorem zg {ι:bV} {v:Value} {x:S} (h:GK v=some x):ba ι x v:=by
 unfold GK at h
 split at h<;>first | (cases h;done) | (cases h;first | rfl | exact ⟨_,rfl,rfl⟩)
theorem BA {ι:bV}:∀ {l:List Value} {m:List S},sQ l=some m->aT (ba ι) m l:=by
 intro l
 induction l with
 | nil=>intro m h;cases h;exact .nil
 | cons v r ih =>
   intro m h
   simp only [sQ] at h
   split at h
   · rename_i x l' h1 h2;cases h;exact .cons (zg h1) (ih h2)
   · cases h
theorem nR {ι:bV} {v:Value} {x:V} (h:BC v=some x):bS ι x v:=by
 unfold BC at h
 split at h
 · rename_i cs
   cases hc:sQ cs.toList with
   | none=>rw [hc] at h;cases h
   | some l=>rw [hc] at h;cases h;exact ⟨cs.toList,by simp,BA hc⟩
 · cases hc:GK v with
   | none=>rw [hc] at h;cases h
   | some l=>rw [hc] at h;cases h;exact zg hc
def pd (env:List T):Operand->T
 | .tmp t=>env.getD t .any
 | .const v=>match BC v with
   | some x => .v x
   | none => .any
 | .func f => .v (.s (.iY f []))
 | .global _ => .any
def xd (ι:bV) (env:List T) (tmps:Array Value):Prop:=∀ t,aK ι (env.getD t .any) (tmps.getD t undef)
theorem xd.mono {ι κ:bV} (h:ι.le κ) {env:List T} {tmps:Array Value} (k:xd ι env tmps):xd κ env tmps:=fun t=>(k t).mono h
theorem C9 {ι:bV} {env:List T} {a:Act} (h:xd ι env a.tmps) (x:Operand):aK ι (pd env x) (a.eval x):=by
 cases x with
 | tmp t=>exact h t
 | const v =>
   simp only [pd,Act.eval]
   cases hv:BC v with
   | none=>trivial
   | some x=>exact nR hv
 | func f=>exact ⟨[],rfl,.nil⟩
 | global g=>trivial
def cQ (P:Program) (t:TypeId):Option Nat:=(P.info? t).map (·.size)
def xu (P:Program) (t:TypeId):Option Nat:=(P.info? t).map (·.bytes)
def zeroOf (P:Program) (t:TypeId):Option V:=match (P.info? t).bind (·.zero) with
 | some v=>BC v
 | none=>none
def dM (P:Program) (t:TypeId):Option Bool:=match P.underlying t with
 | some (.struct _)=>some true
 | some (.array _ _)=>some true
 | some _=>some false
 | none=>none
section tables
variable {P:Program} {w:World} {t:TypeId}
theorem cV {n:Nat} (h:cQ P t=some n):(sizeOf t).run P w = .ok n w:=by
 unfold cQ at h
 cases hi:P.info? t with
 | none=>rw [hi] at h;cases h
 | some i=>rw [hi] at h;cases h;simp [sizeOf,typeInfo,run_bind,run_pure,program,Sem.run,hi]
theorem uy {n:Nat} (h:xu P t=some n):∃ i,(typeInfo t).run P w = .ok i w/\i.bytes=n:=by
 unfold xu at h
 cases hi:P.info? t with
 | none=>rw [hi] at h;cases h
 | some i=>rw [hi] at h;cases h;exact ⟨i,by simp [typeInfo,run_bind,run_pure,program,Sem.run,hi],rfl⟩
theorem fK {ι:bV} {z:V} (h:zeroOf P t=some z):∃ v,(zeroValue t).run P w = .ok v w/\bS ι z v:=by
 unfold zeroOf at h
 cases hi:P.info? t with
 | none=>rw [hi] at h;cases h
 | some i =>
   rw [hi] at h
   simp only [Option.bind_some] at h
   cases hz:i.zero with
   | none=>rw [hz] at h;cases h
   | some v =>
     rw [hz] at h
     exact ⟨v,by simp [zeroValue,typeInfo,run_bind,run_pure,program,Sem.run,hi,hz],nR h⟩
theorem aN {d:TypeDesc} (h:P.underlying t=some d):(underlying t).run P w = .ok d w:=run_underlying h w
theorem iw {b:Bool} (h:dM P t=some b):(isAgg t).run P w = .ok b w:=by
 unfold dM at h
 cases hd:P.underlying t with
 | none=>rw [hd] at h;cases h
 | some d=>rw [hd] at h;cases d<;>cases h<;>simp [isAgg,run_bind,aN hd,run_pure]
end tables
def pE (op:BinOp) (k:IntKind) (a b:Int):Option T :=
 match op with
 | .add=>some (I k (k.wrap (a+b)))
 | .sub=>some (I k (k.wrap (a-b)))
 | .mul=>some (I k (k.wrap (a*b)))
 | .quo=>if b=0 then none else some (I k (k.wrap (a.tdiv b)))
 | .rem=>if b=0 then none else some (I k (a.tmod b))
 | .and=>some (I k (k.wrap (BitVec.ofInt k.bits a &&& BitVec.ofInt k.bits b).toNat))
 | .or=>some (I k (k.wrap (BitVec.ofInt k.bits a ||| BitVec.ofInt k.bits b).toNat))
 | .xor=>some (I k (k.wrap (BitVec.ofInt k.bits a ^^^ BitVec.ofInt k.bits b).toNat))
 | .andNot=>some (I k (k.wrap (BitVec.ofInt k.bits a &&& ~~~BitVec.ofInt k.bits b).toNat))
 | .eql=>some (B (decide (a=b)))
 | .neq=>some (B (!decide (a=b)))
 | .lss=>some (B (decide (a<b)))
 | .leq=>some (B (decide (a<=b)))
 | .gtr=>some (B (decide (b<a)))
 | .geq=>some (B (decide (b<=a)))
 | _=>none
def nq (op:BinOp) (k:IntKind) (a b:Int):Option T :=
 if b<0 then none else
 match op with
 | .shl=>some (I k (k.wrap (a*2 ^ (min b.toNat k.bits))))
 | .shr=>some (I k (a.fdiv (2 ^ (min b.toNat k.bits))))
 | _=>none
def Ej (op:BinOp) (a b:List UInt8):Option T :=
 match op with
 | .add=>if ((a.length+b.length:Nat):Int)>IntKind.i64.max then none else some (Z (.str (a++b)))
 | .eql=>some (B (decide (a=b)))
 | .neq=>some (B (!decide (a=b)))
 | .lss=>some (B (Op.bytesLess a b))
 | .leq=>some (B (Op.bytesLess a b||decide (a=b)))
 | .gtr=>some (B (!(Op.bytesLess a b||decide (a=b))))
 | .geq=>some (B (!Op.bytesLess a b))
 | _=>none
def af (op:BinOp) (x y:T):Option T :=
 match x,y with
 | .v (.s (.int k a)),.v (.s (.int k' b))=>match op with
   | .shl=>nq .shl k a b
   | .shr=>nq .shr k a b
   | op=>if k=k' then pE op k a b else none
 | .v (.s (.str a)),.v (.s (.str b))=>Ej op a b
 | _,_=>none
theorem sX (a b:Int):(a == b)=decide (a=b):=by
 by_cases h:a=b<;>simp [h]
theorem gM (a b:List UInt8):(a == b)=decide (a=b):=by
 by_cases h:a=b<;>simp [h]
theorem GH {P:Program} {w:World} {op:BinOp} {t:TypeId} {k:IntKind} {a b:Int} {r:T} (hs:op ≠ .shl) (Pm:op ≠ .shr) (h:pE op k a b=some r) :
 ∃ v,(Go.binOp op t (.int k a) (.int k b)).run P w = .ok v w/\∀ ι,aK ι r v:=by
 have hd:∀ (q:Int),(if b=0 then none else some (I k q))=some r->b≠0/\r=I k q:=by
  intro q hq
  by_cases hb:b=0
  · rw [if_pos hb] at hq;cases hq
  · rw [if_neg hb] at hq;cases hq;exact ⟨hb,rfl⟩
 cases op<;>simp only [pE] at h
 case shl=>exact (hs rfl).elim
 case shr=>exact (Pm rfl).elim
 case quo =>
  obtain ⟨hb,rfl⟩:=hd _ h
  exact ⟨.int k (k.wrap (a.tdiv b)),by simp only [Go.binOp,ne_eq,not_true_eq_false,if_false,Op.intDiv,if_neg hb];rfl,fun _=>rfl⟩
 case rem =>
  obtain ⟨hb,rfl⟩:=hd _ h
  exact ⟨.int k (a.tmod b),by simp only [Go.binOp,ne_eq,not_true_eq_false,if_false,Op.intDiv,if_neg hb];rfl,fun _=>rfl⟩
 all_goals first
  | (cases h;done)
  | (cases h;exact ⟨_,by simp only [Go.binOp,ne_eq,not_true_eq_false,if_false,Op.intArith,Op.intBits,Op.intCmp];rfl,fun _=>by
   first | rfl | (show Value.bool _=Value.bool _;simp [bne])⟩)
theorem sO {P:Program} {w:World} {op:BinOp} {t:TypeId} {k k':IntKind} {a b:Int} {r:T} (hs:op = .shl\/op = .shr) (h:nq op k a b=some r) :
 ∃ v,(Go.binOp op t (.int k a) (.int k' b)).run P w = .ok v w/\∀ ι,aK ι r v:=by
 unfold nq at h
 split at h
 · cases h
 · rename_i hb
   rcases hs with rfl | rfl
   · cases h
     refine ⟨.int k (k.wrap (a*2 ^ (min b.toNat k.bits))),?_,fun _=>rfl⟩
     show (Op.shift .shl k a k' b).run P w=_
     unfold Op.shift
     rw [if_neg hb]
     rfl
   · cases h
     refine ⟨.int k (a.fdiv (2 ^ (min b.toNat k.bits))),?_,fun _=>rfl⟩
     show (Op.shift .shr k a k' b).run P w=_
     unfold Op.shift
     rw [if_neg hb]
     rfl
theorem size_data (s:ByteArray):s.size=s.data.toList.length:=by rw [Array.length_toList];rfl
theorem GJ {P:Program} {w:World} {op:BinOp} {t:TypeId} {a b:ByteArray} {r:T} (h:Ej op a.data.toList b.data.toList=some r) :
 ∃ v,(Go.binOp op t (.string a) (.string b)).run P w = .ok v w/\∀ ι,aK ι r v:=by
 cases op<;>simp only [Ej] at h <;>
  first
   | (cases h;done)
   | (split at h
      · cases h
      · rename_i hb
        cases h
        rw [← size_data,← size_data] at hb
        refine ⟨.string (a++b),?_,fun _=>⟨a++b,rfl,by simp⟩⟩
        show (Op.stringOp .add a b).run P w=_
        unfold Op.stringOp
        show (if _ then _ else _:Sem Value).run P w=_
        rw [if_neg hb]
        rfl)
   | (cases h;exact ⟨_,by simp only [Go.binOp,Op.stringOp];rfl,fun _=>by
    show Value.bool _=Value.bool _
    simp only [ByteArray.toList_eq,gM]⟩)
theorem za {P:Program} {w:World} {ι:bV} {op:BinOp} {t:TypeId} {x y:T} {u v:Value} {r:T} (hx:aK ι x u) (hy:aK ι y v) (h:af op x y=some r) (p q:Operand) :
 ∃ z,(do eqGuard op t p q u v;Go.binOp op t u v:Sem Value).run P w = .ok z w/\aK ι r z:=by
 unfold af at h
 split at h
 · rename_i k a k' b
   simp only [aK,bS,ba] at hx hy
   subst hx hy
   have hg:eqGuard op t p q (.int k a) (.int k' b)=pure ():=eqGuard_at_int ..
   rw [hg]
   simp only [run_bind,run_pure]
   split at h
   · obtain ⟨v,h1,h2⟩:=sO (P:=P) (w:=w) (t:=t) (k':=k') (.inl rfl) h
     exact ⟨v,h1,h2 ι⟩
   · obtain ⟨v,h1,h2⟩:=sO (P:=P) (w:=w) (t:=t) (k':=k') (.inr rfl) h
     exact ⟨v,h1,h2 ι⟩
   · rename_i Nv Ww
     split at h
     · rename_i e;subst e
       obtain ⟨v,h1,h2⟩:=GH (P:=P) (w:=w) (t:=t) (fun e=>Nv (by rw [e])) (fun e=>Ww (by rw [e])) h
       exact ⟨v,h1,h2 ι⟩
     · cases h
 · rename_i a b
   obtain ⟨sa,rfl,rfl⟩:=hx
   obtain ⟨sb,rfl,rfl⟩:=hy
   have hg:eqGuard op t p q (.string sa) (.string sb)=pure ():=eqGuard_at_string ..
   rw [hg]
   simp only [run_bind,run_pure]
   obtain ⟨v,h1,h2⟩:=GJ (P:=P) (w:=w) (t:=t) h
   exact ⟨v,h1,h2 ι⟩
 · cases h
inductive LK where
 | b | i | s
 deriving DecidableEq
def xY:LK->S->S->Option Bool
 | .b,.bool a,.bool b=>some (decide (a=b))
 | .i,.int k a,.int k' b=>if k=k' then some (decide (a=b)) else none
 | .s,.str a,.str b=>some (decide (a=b))
 | _,_,_=>none
def sN (xs ys:List S):List (Nat×LK)->Option Bool
 | []=>some true
 | (o,k)::r=>match xs[o]?,ys[o]? with
   | some x,some y=>match xY k x y,sN xs ys r with
     | some a,some b=>some (a&&b)
     | _,_=>none
   | _,_=>none
def sm (P:Program) (rec:TypeId->Nat->Option (List (Nat×LK))) (n:Nat) (off:Nat):List Field->Option (List (Nat×LK))
 | []=>some []
 | f::fs=>if f.name = "_" then sm P rec n off fs else
   match cQ P f.type,rec f.type (off+f.offset),sm P rec n off fs with
   | some m,some a,some b=>if f.offset+m<=n/\m≠0 then some (a++b) else none
   | _,_,_=>none
def sj (rec:Nat->Option (List (Nat×LK))) (n:Nat):Nat->Nat->Option (List (Nat×LK))
 | 0,_=>some []
 | m+1,off=>match rec off,sj rec n m (off+n) with
   | some a,some b=>some (a++b)
   | _,_=>none
def leaves (P:Program):Nat->TypeId->Nat->Option (List (Nat×LK))
 | 0,_,_=>none
 | d+1,t,off=>match P.underlying t with
   | some .bool=>some [(off,.b)]
   | some (.int _)=>some [(off,.i)]
   | some .string=>some [(off,.s)]
   | some (.struct fs)=>if P.stoodInHeld t then none else match cQ P t with
     | some n=>sm P (leaves P d) n off fs.toList
     | none=>none
   | some (.array m e)=>match cQ P e,cQ P t with
     | some n,some N=>if m*n<=N/\n≠0 then sj (leaves P d e) n m off else none
     | _,_=>none
   | _=>none
theorem qB {xs ys:List S} {a b:List (Nat×LK)} {r:Bool} (h:sN xs ys (a++b)=some r):∃ p q,sN xs ys a=some p/\sN xs ys b=some q/\r=(p&&q):=by
 induction a generalizing r with
 | nil=>exact ⟨true,r,rfl,h,rfl⟩
 | cons x a ih =>
   obtain ⟨o,k⟩:=x
   simp only [List.cons_append,sN] at h
   split at h
   · rename_i x y hx hy
     split at h
     · rename_i c d hc hd
       cases h
       obtain ⟨p,q,hp,hq,e⟩:=ih hd
       refine ⟨c&&p,q,?_,hq,by rw [e,Bool.and_assoc]⟩
       simp only [sN,hx,hy,hc,hp]
     · cases h
   · cases h
section
variable {P:Program} {ι:bV}
def C6 (P:Program) (t:TypeId) (xs:List S) (off:Nat):Option V :=
 match dM P t with
 | some true=>match cQ P t with
   | some n=>if off+n<=xs.length then some (.agg ((xs.drop off).take n)) else none
   | none=>none
 | some false=>xs[off]?.map .s
 | none=>none
theorem El {α β:Type} {R:α->β->Prop} {l:List α} {m:List β} (h:aT R l m) (n:Nat):aT R (l.take n) (m.take n):=by
 induction h generalizing n with
 | nil=>simpa using aT.nil
 | cons a _ ih=>cases n with
   | zero=>simpa using aT.nil
   | succ n=>simpa using aT.cons a (ih n)
theorem Ek {α β:Type} {R:α->β->Prop} {l:List α} {m:List β} (h:aT R l m) (n:Nat):aT R (l.drop n) (m.drop n):=by
 induction h generalizing n with
 | nil=>simpa using aT.nil
 | cons a h ih=>cases n with
   | zero=>simpa using aT.cons a h
   | succ n=>simpa using ih n
theorem extract_toArray (cs:List Value) (a b:Nat):cs.toArray.extract a (a+b)=((cs.drop a).take b).toArray:=by
 rw [List.extract_toArray]
 simp [List.extract]
theorem vu {t:TypeId} {xs:List S} {cs:List Value} {off:Nat} {x:V} (h:aT (ba ι) xs cs) (hp:C6 P t xs off=some x) (w:World) :
 ∃ v,(part t cs.toArray off).run P w = .ok v w/\bS ι x v:=by
 unfold C6 at hp
 split at hp
 · rename_i ha
   split at hp
   · rename_i n hn
     split at hp
     · cases hp
       refine ⟨.agg (((cs.drop off).take n).toArray),?_,⟨_,rfl,El (Ek h off) n⟩⟩
       simp only [part,run_bind,iw ha,cV hn,if_true,run_pure,extract_toArray]
     · cases hp
   · cases hp
 · rename_i ha
   cases hx:xs[off]? with
   | none=>rw [hx] at hp;cases hp
   | some y =>
     rw [hx] at hp;cases hp
     obtain ⟨v,hv,r⟩:=bn h off y hx
     exact ⟨v,by simp [part,run_bind,iw ha,hv,run_pure],r⟩
 · cases hp
def LK.fits (P:Program) (t:TypeId):LK->Prop
 | .b=>P.underlying t=some .bool
 | .i=>∃ k,P.underlying t=some (.int k)
 | .s=>P.underlying t=some .string
theorem Ci {k:LK} {x y:S} {u v:Value} {r:Bool} {t:TypeId} (hx:ba ι x u) (hy:ba ι y v) (h:xY k x y=some r)
 (ht:k.fits P t) (d:Nat) (w:World) :
 (Op.equalIn (d+1) t u v).run P w = .ok r w:=by
 cases k with
 | b =>
   cases x<;>first | (cases h;done) | skip
   cases y<;>first | (cases h;done) | skip
   rename_i a b
   simp only [ba] at hx hy;subst hx hy;cases h
   rw [run_equalIn_bool' w d t _ _ ht]
   cases a<;>cases b<;>rfl
 | i =>
   cases x<;>first | (cases h;done) | skip
   cases y<;>first | (cases h;done) | skip
   rename_i k a k' b
   simp only [ba] at hx hy;subst hx hy
   simp only [xY] at h
   by_cases e:k=k'
   · subst e
     rw [if_pos rfl] at h
     cases h
     obtain ⟨k',hk⟩:=ht
     rw [run_equalIn_int w d t _ k' _ _ hk,sX]
   · rw [if_neg e] at h;cases h
 | s =>
   cases x<;>first | (cases h;done) | skip
   cases y<;>first | (cases h;done) | skip
   obtain ⟨s,rfl,rfl⟩:=hx
   obtain ⟨s',rfl,rfl⟩:=hy
   cases h
   rw [run_equalIn_string w d t _ _ ht,ByteArray.toList_eq,ByteArray.toList_eq,gM]
theorem GF {xs ys:List S} {o:Nat} {k:LK} {r:Bool} (h:sN xs ys [(o,k)]=some r):∃ x y,xs[o]? = some x/\ys[o]? = some y/\xY k x y=some r:=by
 simp only [sN] at h
 split at h
 · rename_i x y hx hy
   split at h
   · rename_i a b ha hb
     cases hb
     cases h
     exact ⟨x,y,hx,hy,by simpa using ha⟩
   · cases h
 · cases h
theorem oN {t:TypeId} {cs:List Value} {off n o m:Nat} (hm:cQ P t=some m) (hle:o+m<=n) (hag:(dM P t).isSome) (h0:dM P t=some false->m≠0) (w:World) :
 (part t ((cs.drop off).take n).toArray o).run P w=(part t cs.toArray (off+o)).run P w:=by
 cases ha:dM P t with
 | none=>rw [ha] at hag;cases hag
 | some b =>
   cases b with
   | true =>
     simp only [part,run_bind,iw ha,cV hm,if_true,run_pure]
     rw [extract_toArray,extract_toArray]
     congr 3
     rw [List.drop_take,List.take_take,List.drop_drop]
     congr 1
     omega
   | false =>
     have:=h0 ha
     have e:((cs.drop off).take n)[o]? = cs[off+o]? := by
      rw [List.getElem?_take,if_pos (by omega),List.getElem?_drop]
     simp only [part,run_bind,iw ha,List.getElem?_toArray,e,Bool.false_eq_true,if_false]
theorem mc {t:TypeId} {n:Nat} (ha:dM P t=some true) (hn:cQ P t=some n) (cs:List Value) (off:Nat) (w:World) :
 (part t cs.toArray off).run P w = .ok (.agg ((cs.drop off).take n).toArray) w:=by
 simp only [part,run_bind,iw ha,cV hn,if_true,run_pure,extract_toArray]
theorem kz {d:Nat} {t:TypeId} {off:Nat} {ls:List (Nat×LK)} (h:leaves P d t off=some ls):(dM P t).isSome:=by
 cases d with
 | zero=>cases h
 | succ d =>
   simp only [leaves] at h
   unfold dM
   cases hd:P.underlying t with
   | none=>rw [hd] at h;cases h
   | some x=>cases x<;>rfl
end
section
variable {P:Program} {ι:bV}
def mr (d:Nat) (e:TypeId) (n:Nat) (xs ys:Array Value):Nat->Nat->Sem Bool
 | 0,_=>pure true
 | c+1,i=>do
   let a ← part e xs (i*n)
   let b ← part e ys (i*n)
   let r ← Op.equalIn d e a b
   if (!r)=true then pure false else mr d e n xs ys c (i+1)
theorem run_equalIn_array (d:Nat) {t e:TypeId} {len n:Nat} (xs ys:Array Value) (w:World) (ht:P.underlying t=some (.array len e)) (hn:cQ P e=some n) :
 (Op.equalIn (d+1) t (.agg xs) (.agg ys)).run P w=(mr d e n xs ys len 0).run P w:=by
 simp only [Op.equalIn,Go.Abs.run_bind,aN ht,cV hn]
 rw [Std.Legacy.Range.forIn_eq_forIn_range']
 have hs:[:len].size=len:=by simp [Std.Legacy.Range.size]
 rw [hs,show [:len].start=0 from rfl,show [:len].step=1 from rfl]
 generalize hst:(0:Nat)=st
 clear hst hs ht
 induction len generalizing st w with
 | zero=>simp [mr,run_pure]
 | succ len ih =>
   rw [List.range'_succ]
   simp only [List.forIn_cons,mr,Go.Abs.run_bind]
   generalize (part e xs (st*n)).run P w=r1
   cases r1 with
   | halt x w1=>rfl
   | ok a w1 =>
     simp only []
     generalize (part e ys (st*n)).run P w1=r2
     cases r2 with
     | halt x w2=>rfl
     | ok b w2 =>
       simp only []
       generalize (Op.equalIn d e a b).run P w2=r3
       cases r3 with
       | halt x w3=>rfl
       | ok r w3 =>
         cases r
         · simp [run_pure]
         · simp only [Bool.not_true,Bool.false_eq_true,if_false,run_pure]
           exact ih w3 (st+1)
theorem xy {xs ys:List S} {cs ds:List Value} (hx:aT (ba ι) xs cs) (hy:aT (ba ι) ys ds) (k:Nat) (w:World) :
 ∀ (d:Nat) (t:TypeId) (off:Nat) (ls:List (Nat×LK)) (r:Bool),leaves P d t off=some ls->sN xs ys ls=some r →
   ∃ a b,(part t cs.toArray off).run P w = .ok a w/\(part t ds.toArray off).run P w = .ok b w/\(Op.equalIn (d+k) t a b).run P w = .ok r w:=by
 intro d
 induction d with
 | zero=>intro t off ls r h;cases h
 | succ d ih =>
   intro t off ls r h hr
   have leaf:∀ (lk:LK),ls=[(off,lk)]->dM P t=some false →
    lk.fits P t →
    ∃ a b,(part t cs.toArray off).run P w = .ok a w/\(part t ds.toArray off).run P w = .ok b w/\(Op.equalIn (d+1+k) t a b).run P w = .ok r w:=by
    intro lk e ha ht
    subst e
    obtain ⟨x,y,h1,h2,h3⟩:=GF hr
    obtain ⟨u,hu,ru⟩:=bn hx off x h1
    obtain ⟨v,hv,rv⟩:=bn hy off y h2
    refine ⟨u,v,by simp [part,run_bind,iw ha,hu,run_pure],by simp [part,run_bind,iw ha,hv,run_pure],?_⟩
    have e:d+1+k=(d+k)+1:=by omega
    rw [e]
    exact Ci ru rv h3 ht _ w
   simp only [leaves] at h
   split at h
   · rename_i hu;cases h;exact leaf .b rfl (by simp [dM,hu]) hu
   · rename_i k' hu;cases h;exact leaf .i rfl (by simp [dM,hu]) ⟨k',hu⟩
   · rename_i hu;cases h;exact leaf .s rfl (by simp [dM,hu]) hu
   · rename_i fs hu
     split at h
     · cases h
     · rename_i hst
       have YM:P.stoodInHeld t=false:=by simpa using hst
       split at h
       · rename_i n hn
         have ha:dM P t=some true:=by simp [dM,hu]
         refine ⟨_,_,mc ha hn cs off w,mc ha hn ds off w,?_⟩
         have hfo:P.fieldsOf t=fs:=by simp [Program.fieldsOf,hu]
         have e:d+1+k=(d+k)+1:=by omega
         rw [e,run_equalIn_struct w (d+k) t _ _ (by rw [hfo];exact hu) YM,hfo]
         generalize fs.toList=fl at h
         clear hfo e hu leaf
         induction fl generalizing ls r with
         | nil=>cases h;cases hr;rfl
         | cons f fl ihf =>
           simp only [sm] at h
           simp only [Op.eqFields]
           by_cases hname:f.name = "_"
           · rw [if_pos hname] at h
             rw [if_neg (by simpa using hname)]
             exact ihf ls r hr h
           · rw [if_neg hname] at h
             rw [if_pos hname]
             split at h
             · rename_i m a b hm hla Rv
               split at h
               · rename_i hle
                 cases h
                 obtain ⟨p,q,hp,hq,rfl⟩:=qB hr
                 obtain ⟨u,v,h1,h2,h3⟩:=ih f.type (off+f.offset) a p hla hp
                 simp only [run_bind]
                 rw [oN hm hle.1 (kz hla) (fun _=>hle.2) w,h1]
                 simp only []
                 rw [oN hm hle.1 (kz hla) (fun _=>hle.2) w,h2]
                 simp only [h3]
                 cases p
                 · simp [run_pure]
                 · simp only [Bool.not_true,Bool.false_eq_true,if_false,Bool.true_and]
                   exact ihf b q hq Rv
               · cases h
             · cases h
       · cases h
   · rename_i m e hu
     split at h
     · rename_i n N hn hN
       split at h
       · rename_i hle
         have ha:dM P t=some true:=by simp [dM,hu]
         refine ⟨_,_,mc ha hN cs off w,mc ha hN ds off w,?_⟩
         have ee:d+1+k=(d+k)+1:=by omega
         rw [ee,run_equalIn_array (d+k) _ _ w hu hn]
         obtain ⟨hle,Un⟩:=hle
         have key:∀ (c i o:Nat) (ls:List (Nat×LK)) (r:Bool),o=off+i*n->(i+c)*n<=N->sj (leaves P d e) n c o=some ls->sN xs ys ls=some r →
          (mr (d+k) e n ((cs.drop off).take N).toArray ((ds.drop off).take N).toArray c i).run P w = .ok r w:=by
          intro c
          induction c with
          | zero=>intro i o ls r _ _ hl hr;cases hl;cases hr;rfl
          | succ c ihc =>
            intro i o ls r ho O6 hl hr
            simp only [sj] at hl
            split at hl
            · rename_i a b hla Rv
              cases hl
              obtain ⟨p,q,hp,hq,rfl⟩:=qB hr
              subst ho
              obtain ⟨u,v,h1,h2,h3⟩:=ih e (off+i*n) a p hla hp
              have hb:i*n+n<=N:=by
               have:(i+1)*n<=(i+(c+1))*n:=Nat.mul_le_mul_right n (by omega)
               have e1:(i+1)*n=i*n+n:=by rw [Nat.add_mul];omega
               omega
              simp only [mr,run_bind]
              rw [oN hn hb (kz hla) (fun _=>Un) w,h1]
              simp only []
              rw [oN hn hb (kz hla) (fun _=>Un) w,h2]
              simp only [h3]
              cases p
              · simp [run_pure]
              · simp only [Bool.not_true,Bool.false_eq_true,if_false,Bool.true_and]
                refine ihc (i+1) (off+i*n+n) b q ?_ ?_ Rv hq
                · rw [Nat.add_mul];omega
                · have:i+1+c=i+(c+1):=by omega
                  rw [this];exact O6
            · cases hl
         exact key m 0 off ls r (by simp) (by simpa using hle) h hr
       · cases h
     · cases h
   · cases h
end
def xH:Nat:=12
inductive EK where
 | b | p | l | m | f | i
 | a (n:Nat) (l:List (Nat×LK))
def P7 (P:Program) (t:TypeId):Option EK :=
 match P.underlying t with
 | some .bool=>some .b
 | some (.pointer _)=>some .p
 | some (.slice _)=>some .l
 | some (.map _ _)=>some .m
 | some (.func _ _ _)=>some .f
 | some (.interface _)=>some .i
 | some (.struct _)=>if P.eqGuardType P.depth t then none else match leaves P xH t 0,cQ P t with
   | some l,some n=>some (.a n l)
   | _,_=>none
 | some (.array _ _)=>if P.eqGuardType P.depth t then none else match leaves P xH t 0,cQ P t with
   | some l,some n=>some (.a n l)
   | _,_=>none
 | _=>none
def Be:EK->T->T->Option Bool
 | .b,.v (.s (.bool a)),.v (.s (.bool b))=>some (decide (a=b))
 | .p,.v (.s x),.v (.s y)=>match x,y with
   | .bL,.bL=>some true
   | .bL,.ptr _ _=>some false
   | .ptr _ _,.bL=>some false
   | _,_=>none
 | .l,.v (.s x),.v (.s y)=>match x,y with
   | .ay,.ay=>some true
   | .ay,.sl _ _ _ _=>some false
   | .sl _ _ _ _,.ay=>some false
   | .ay,.emp _ _=>some false
   | .emp _ _,.ay=>some false
   | _,_=>none
 | .m,.v (.s x),.v (.s y)=>match x,y with
   | .mU,.mU=>some true
   | .mU,.map _=>some false
   | .map _,.mU=>some false
   | _,_=>none
 | .f,.v (.s x),.v (.s y)=>match x,y with
   | .va,.va=>some true
   | .va,.iY _ _=>some false
   | .iY _ _,.va=>some false
   | _,_=>none
 | .i,.v (.s .iT),.v (.s .iT)=>some true
 | .a n l,.v (.agg xs),.v (.agg ys)=>if xs.length=n/\ys.length=n then sN xs ys l else none
 | _,_,_=>none
def isConst:Operand->Bool
 | .const _=>true
 | _=>false
section
variable {P:Program} {ι:bV} {w:World}
theorem Ha {d:Nat} {t e:TypeId} (hu:P.underlying t=some (.pointer e)) (a b:Option Addr) (h:a=none\/b=none) :
 (Op.equalIn (d+1) t (.pointer a) (.pointer b)).run P w = .ok (a.isNone&&b.isNone) w:=by
 rcases h with rfl | rfl
 · simp [Op.equalIn,run_bind,aN hu,run_pure]
 · cases a<;>simp [Op.equalIn,run_bind,aN hu,run_pure]
theorem BW {d:Nat} {t e:TypeId} (hu:P.underlying t=some (.slice e)) (a b:Option Addr) (n c m k:Nat) (h:a=none\/b=none) :
 (Op.equalIn (d+1) t (.slice a n c) (.slice b m k)).run P w = .ok (a.isNone&&b.isNone) w:=by
 rcases h with rfl | rfl
 · simp [Op.equalIn,run_bind,aN hu,run_pure]
 · cases a<;>simp [Op.equalIn,run_bind,aN hu,run_pure]
theorem G9 {d:Nat} {t e e':TypeId} (hu:P.underlying t=some (.map e e')) (a b:Option Nat) (h:a=none\/b=none) :
 (Op.equalIn (d+1) t (.map a) (.map b)).run P w = .ok (a.isNone&&b.isNone) w:=by
 rcases h with rfl | rfl
 · simp [Op.equalIn,run_bind,aN hu,run_pure]
 · cases a<;>simp [Op.equalIn,run_bind,aN hu,run_pure]
theorem pI {d:Nat} {t:TypeId} {e e':Array TypeId} {e'':Bool} (hu:P.underlying t=some (.func e e' e'')) (f:Fn) (a b:Array Value) :
 (Op.equalIn (d+1) t .nilFunc .nilFunc).run P w = .ok true w/\(Op.equalIn (d+1) t .nilFunc (.func f a b)).run P w = .ok false w/\(Op.equalIn (d+1) t (.func f a b) .nilFunc).run P w = .ok false w :=
 ⟨by simp [Op.equalIn,run_bind,aN hu,run_pure],by simp [Op.equalIn,run_bind,aN hu,run_pure],by simp [Op.equalIn,run_bind,aN hu,run_pure]⟩
theorem BU {d:Nat} {t:TypeId} {e:Array (String×TypeId)} (hu:P.underlying t=some (.interface e)) :
 (Op.equalIn (d+1) t .nilIface .nilIface).run P w = .ok true w:=by simp [Op.equalIn,run_bind,aN hu,run_pure]
theorem fF {t:TypeId} {u v:Value} {r:Bool} (h:(Op.equalIn (9999+1) t u v).run P w = .ok r w) (neg:Bool) (p q:Operand)
 (hg:(eqGuard (if neg then .neq else .eql) t p q u v).run P w = .ok () w)
 (hb:Go.binOp (if neg then .neq else .eql) t u v=(do pure (.bool (neg ^^ (← Op.equal t u v))))) :
 (do eqGuard (if neg then .neq else .eql) t p q u v;Go.binOp (if neg then .neq else .eql) t u v:Sem Value).run P w = .ok (.bool (neg ^^ r)) w:=by
 have h':(Op.equal t u v).run P w = .ok r w:=h
 simp only [run_bind,hg,hb,h',run_pure]
theorem rR {t:TypeId} {x y:T} {u v:Value} {r:Bool} {k:EK} (hk:P7 P t=some k) (hx:aK ι x u) (hy:aK ι y v) (h:Be k x y=some r) (neg:Bool) (p q:Operand)
 (hc:k = .i->isConst p||isConst q) :
 (do eqGuard (if neg then .neq else .eql) t p q u v;Go.binOp (if neg then .neq else .eql) t u v:Sem Value).run P w = .ok (.bool (neg ^^ r)) w:=by
 have uK:∀ {x:S} {u:Value},ba ι x u->(∃ i o n c,x = .sl i o n c)\/(∃ i e,x = .emp i e)->∃ a n c,u = .slice (some a) n c:=by
  rintro x u hr (⟨i,o,n,c,rfl⟩ | ⟨i,e,rfl⟩)
  · cases c with
    | known c=>obtain ⟨L,_,e,_⟩:=hr;exact ⟨_,_,_,e⟩
    | grown c=>obtain ⟨L,c,_,e,_⟩:=hr;exact ⟨_,_,_,e⟩
  · obtain ⟨L,o,c,_,e,_⟩:=hr;exact ⟨_,_,_,e⟩
 unfold P7 at hk
 split at hk
 · rename_i hu
   cases hk
   unfold Be at h
   split at h<;>first | (rename_i hh;cases hh;done) | skip
   · simp only [aK,bS,ba] at hx hy;subst hx hy;cases h
     refine fF (by rw [run_equalIn_bool' w _ t _ _ hu];rename_i a b _;cases a<;>cases b<;>rfl) neg p q (by rw [eqGuard_at_bool];rfl) (by cases neg<;>simp [Go.binOp])
   · cases h
 · rename_i e hu
   cases hk
   have hp:=fun (a b:Option Addr) h=>Ha (w:=w) (d:=9999) hu a b h
   have fin:∀ a b:Option Addr,a=none\/b=none->u = .pointer a->v = .pointer b->r=(a.isNone&&b.isNone) →
    (do eqGuard (if neg then .neq else .eql) t p q u v;Go.binOp (if neg then .neq else .eql) t u v:Sem Value).run P w = .ok (.bool (neg ^^ r)) w:=by
    intro a b hab hu hv hr
    subst hu hv hr
    exact fF (hp a b hab) neg p q (by rw [eqGuard_at_pointer];rfl) (by cases neg<;>simp [Go.binOp])
   unfold Be at h
   split at h<;>first | (rename_i hh;cases hh;done) | skip
   · split at h
     · cases h;exact fin none none (.inl rfl) hx hy rfl
     · obtain ⟨L,_,e⟩:=hy;cases h;exact fin none _ (.inl rfl) hx e rfl
     · obtain ⟨L,_,e⟩:=hx;cases h;exact fin _ none (.inr rfl) e hy rfl
     · cases h
   · cases h
 · rename_i e hu
   cases hk
   have hp:=fun (a b:Option Addr) n c m k h=>BW (w:=w) (d:=9999) hu a b n c m k h
   have fin:∀ (a b:Option Addr) (n c m d:Nat),a=none\/b=none->u = .slice a n c->v = .slice b m d->r=(a.isNone&&b.isNone) →
    (do eqGuard (if neg then .neq else .eql) t p q u v;Go.binOp (if neg then .neq else .eql) t u v:Sem Value).run P w = .ok (.bool (neg ^^ r)) w:=by
    intro a b n c m d hab hu hv hr
    subst hu hv hr
    exact fF (hp a b n c m d hab) neg p q (by rw [eqGuard_at_slice];rfl) (by cases neg<;>simp [Go.binOp])
   unfold Be at h
   split at h<;>first | (rename_i hh;cases hh;done) | skip
   · split at h
     · cases h;exact fin none none _ _ _ _ (.inl rfl) hx hy rfl
     · obtain ⟨a,n,c,e⟩:=uK hy (.inl ⟨_,_,_,_,rfl⟩);cases h;exact fin none _ _ _ _ _ (.inl rfl) hx e rfl
     · obtain ⟨a,n,c,e⟩:=uK hx (.inl ⟨_,_,_,_,rfl⟩);cases h;exact fin _ none _ _ _ _ (.inr rfl) e hy rfl
     · obtain ⟨a,n,c,e⟩:=uK (x := .emp _ _) hy (.inr ⟨_,_,rfl⟩);cases h;exact fin none _ _ _ _ _ (.inl rfl) hx e rfl
     · obtain ⟨a,n,c,e⟩:=uK (x := .emp _ _) hx (.inr ⟨_,_,rfl⟩);cases h;exact fin _ none _ _ _ _ (.inr rfl) e hy rfl
     · cases h
   · cases h
 · rename_i e e' hu
   cases hk
   have hp:=fun (a b:Option Nat) h=>G9 (w:=w) (d:=9999) hu a b h
   have fin:∀ a b:Option Nat,a=none\/b=none->u = .map a->v = .map b->r=(a.isNone&&b.isNone) →
    (do eqGuard (if neg then .neq else .eql) t p q u v;Go.binOp (if neg then .neq else .eql) t u v:Sem Value).run P w = .ok (.bool (neg ^^ r)) w:=by
    intro a b hab hu hv hr
    subst hu hv hr
    exact fF (hp a b hab) neg p q (by rw [eqGuard_at_map];rfl) (by cases neg<;>simp [Go.binOp])
   unfold Be at h
   split at h<;>first | (rename_i hh;cases hh;done) | skip
   · split at h
     · cases h;exact fin none none (.inl rfl) hx hy rfl
     · obtain ⟨L,_,e⟩:=hy;cases h;exact fin none _ (.inl rfl) hx e rfl
     · obtain ⟨L,_,e⟩:=hx;cases h;exact fin _ none (.inr rfl) e hy rfl
     · cases h
   · cases h
 · rename_i e e' e'' hu
   cases hk
   unfold Be at h
   split at h<;>first | (rename_i hh;cases hh;done) | skip
   · split at h
     · simp only [aK,bS,ba] at hx hy;subst hx hy;cases h
       exact fF (pI hu (.func 0) #[] #[]).1 neg p q (by rw [eqGuard_at_nilFunc];rfl) (by cases neg<;>simp [Go.binOp])
     · obtain ⟨L,e,_⟩:=hy;simp only [aK,bS,ba] at hx;subst hx e;cases h
       exact fF (pI hu _ _ _).2.1 neg p q (by rw [eqGuard_at_nilFunc];rfl) (by cases neg<;>simp [Go.binOp])
     · obtain ⟨L,e,_⟩:=hx;simp only [aK,bS,ba] at hy;subst hy e;cases h
       exact fF (pI hu _ _ _).2.2 neg p q (by rw [eqGuard_at_func];rfl) (by cases neg<;>simp [Go.binOp])
     · cases h
   · cases h
 · rename_i e hu
   cases hk
   unfold Be at h
   split at h<;>first | (rename_i hh;cases hh;done) | skip
   · simp only [aK,bS,ba] at hx hy;subst hx hy;cases h
     refine fF (BU hu) neg p q ?_ (by cases neg<;>simp [Go.binOp])
     have:=hc rfl
     cases p<;>first | (rw [eqGuard_nil_constL];rfl) | (cases q<;>first | (rw [eqGuard_nil_constR];rfl) | (simp [isConst] at this))
   · cases h
 all_goals first | (cases hk;done) | skip
 all_goals
  rename_i hu
  split at hk
  · cases hk
  · rename_i hg
    have vI:P.eqGuardType P.depth t=false:=by simpa using hg
    split at hk<;>first | (cases hk;done) | skip
    rename_i l n hl hn
    cases hk
    unfold Be at h
    split at h<;>first | (rename_i hh;cases hh;done) | skip
    · rename_i xs ys he
      cases he
      split at h
      · rename_i hlen
        obtain ⟨cs,rfl,hcs⟩:=hx
        obtain ⟨ds,rfl,hds⟩:=hy
        obtain ⟨a,b,ha,hb,hr⟩:=xy hcs hds 9988 w xH t 0 _ _ hl h
        have hag:dM P t=some true:=by simp [dM,hu]
        have l1:=aA hcs
        have l2:=aA hds
        rw [mc hag hn] at ha hb
        cases ha;cases hb
        rw [List.drop_zero,List.take_of_length_le (by omega),List.drop_zero,List.take_of_length_le (by omega)] at hr
        exact fF hr neg p q (run_eqGuard_agg w _ t p q _ _ vI) (by cases neg<;>simp [Go.binOp])
      · cases h
    · cases h
end
def aC (c a b:T):Option T :=
 match c with
 | .v (.s (.bool true))=>some a
 | .v (.s (.bool false))=>some b
 | _=>none
def bg (x:T):Option T :=
 match x with
 | .v (.s (.ptr _ _))=>some x
 | .v (.s (.iY _ _))=>some x
 | _=>none
def jZ (op:UnOp) (x:T):Option T :=
 match op,x with
 | .not,.v (.s (.bool b))=>some (B (!b))
 | .neg,.v (.s (.int k n))=>some (I k (k.wrap (0-n)))
 | .xor,.v (.s (.int k n))=>some (I k (k.wrap (BitVec.ofInt k.bits (if k.signed then -1 else k.max) ^^^ BitVec.ofInt k.bits n).toNat))
 | _,_=>none
def aI (k:IntKind) (x:T):Option T :=
 match x with
 | .v (.s (.int _ n))=>some (I k (k.wrap n))
 | _=>none
def GD (x:T):Option T :=
 match x with
 | .v (.s (.str _))=>some x
 | _=>none
def Fj (P:Program) (t:TypeId):Option (Option Nat) :=
 match dM P t with
 | some true=>(cQ P t).map some
 | some false=>some none
 | none=>none
def xh (k:Option Nat) (xs:List S) (off:Nat):Option V :=
 match k with
 | some n=>if off+n<=xs.length then some (.agg ((xs.drop off).take n)) else none
 | none=>match xs[off]? with
   | some x=>some (.s x)
   | none=>none
theorem vt {P:Program} {t:TypeId} {k:Option Nat} (h:Fj P t=some k) (xs:List S) (off:Nat):C6 P t xs off=xh k xs off:=by
 unfold Fj at h
 unfold C6 xh
 split at h
 · rename_i ha
   cases hs:cQ P t with
   | none=>rw [hs] at h;cases h
   | some n=>rw [hs] at h;cases h;simp only [ha]
 · rename_i ha
   cases h
   simp only [ha]
   cases xs[off]? <;> rfl
 · cases h
def px (k:Option Nat) (off:Nat) (x:T):Option T :=
 match x with
 | .v (.agg xs)=>match xh k xs off with
   | some y=>some (.v y)
   | none=>none
 | _=>none
def ae (off:Nat) (x:T):Option T :=
 match x with
 | .v (.s (.ptr i o))=>some (Z (.ptr i (o+off)))
 | _=>none
def nP (x:T) (n:Nat):Option Nat :=
 match x with
 | .v (.s (.int _ i))=>if 0<=i/\i<n then some i.toNat else none
 | _=>none
def av (e:Nat) (x i:T):Option T :=
 match x with
 | .v (.s (.sl b o len _))=>match nP i len with
   | some j=>some (Z (.ptr b (o+j*e)))
   | none=>none
 | _=>none
def bz (n e:Nat) (x i:T):Option T :=
 match x with
 | .v (.s (.ptr b o))=>match nP i n with
   | some j=>some (Z (.ptr b (o+j*e)))
   | none=>none
 | _=>none
def dG (x i:T):Option T :=
 match x with
 | .v (.s (.str l))=>match nP i l.length with
   | some j=>match l[j]? with
     | some b=>some (I .u8 b.toNat)
     | none=>none
   | none=>none
 | _=>none
def nh (k:Option Nat) (n e:Nat) (x i:T):Option T :=
 match x with
 | .v (.agg xs)=>match nP i n with
   | some j=>match xh k xs (j*e) with
     | some y=>some (.v y)
     | none=>none
   | none=>none
 | _=>none
def ah (x:T) (i:Nat):Option T :=
 match x with
 | .eF l=>match l[i]? with
   | some y=>some (.v y)
   | none=>none
 | _=>none
def nj (x:T) (n:Nat):Option Nat :=
 match x with
 | .v (.s (.int _ i))=>if 0<=i/\i<=n then some i.toNat else none
 | _=>none
def da (len cap:Nat) (lo hi mx:Option T):Option (Nat×Nat×Nat) :=
 match (match mx with | some v=>nj v cap | none=>some cap) with
 | none=>none
 | some m=>match (match hi,mx with | some v,_=>nj v m | none,none=>some len | none,some _=>none) with
   | none=>none
   | some h=>match (match lo with | some v=>nj v h | none=>some 0) with
     | none=>none
     | some l=>some (l,h,m)
def bD (x:T) (lo hi mx:Option T):Option T :=
 match x,mx with
 | .v (.s (.str s)),none=>match da s.length s.length lo hi none with
   | some (l,h,_)=>some (Z (.str ((s.take h).drop l)))
   | none=>none
 | _,_=>none
def aB (e:Nat) (x:T) (lo hi mx:Option T):Option T :=
 match x with
 | .v (.s (.sl b o len (.known c)))=>match da len c lo hi mx with
   | some (l,h,m)=>some (Z (.sl b (if m=l then o else o+l*e) (h-l) (.known (m-l))))
   | none=>none
 | .v (.s (.sl b o len (.grown g)))=>if g=e then
  match da len len lo hi mx with
  | some (l,h,m)=>match mx with
    | some _=>some (Z (.sl b (if m=l then o else o+l*e) (h-l) (.known (m-l))))
    | none=>if l<len then some (Z (.sl b (o+l*e) (h-l) (.grown e))) else some (Z (.emp b e))
  | none=>none
  else none
 | .v (.s (.emp b g))=>if g=e then
  match da 0 0 lo hi mx,mx with
  | some _,none=>some (Z (.emp b e))
  | _,_=>none
  else none
 | .v (.s .ay)=>match da 0 0 lo hi mx with
   | some _=>some (Z .ay)
   | none=>none
 | _=>none
def pF (n e:Nat) (x:T) (lo hi mx:Option T):Option T :=
 match x with
 | .v (.s (.ptr b o))=>match da n n lo hi mx with
   | some (l,h,m)=>some (Z (.sl b (if m=l then o else o+l*e) (h-l) (.known (m-l))))
   | none=>none
 | _=>none
def bN (x:T):Option T :=
 match x with
 | .v (.s (.str l))=>some (I .i64 l.length)
 | _=>none
def az (x:T):Option T :=
 match x with
 | .v (.s (.sl _ _ n _))=>some (I .i64 n)
 | .v (.s (.emp _ _))=>some (I .i64 0)
 | .v (.s .ay)=>some (I .i64 0)
 | _=>none
def zc (x:T):Option T :=
 match x with
 | .v (.s (.sl _ _ _ (.known c)))=>some (I .i64 c)
 | .v (.s .ay)=>some (I .i64 0)
 | _=>none
def nQ (x y:T):Option T :=
 match x,y with
 | .v (.s (.int k a)),.v (.s (.int _ b))=>some (I k (if b<a then b else a))
 | _,_=>none
def vr (x y:T):Option T :=
 match x,y with
 | .v (.s (.int k a)),.v (.s (.int _ b))=>some (I k (if a<b then b else a))
 | _,_=>none
def kM (f:T->T->Option T):T->List T->Option T
 | x,[]=>some x
 | x,y::r=>match f x y with
   | some z=>kM f z r
   | none=>none
def aG (zs:List S):List (Nat×Nat×T)->Option (List S)
 | []=>some zs
 | (off,n,.v x)::r=>if x.cells.length=n/\off+n<=zs.length then aG (aO zs off x.cells) r else none
 | _::_=>none
def rG (f:FuncId):List T->List (Nat×Nat)->Option T
 | [],acc=>some (Z (.iY f acc.reverse))
 | .v (.s (.ptr i o))::r,acc=>rG f r ((i,o)::acc)
 | _::_,_=>none
section
variable {P:Program} {ι:bV} {w:World}
theorem Ei {c a b:T} {u v z:Value} {r:T} (hc:aK ι c u) (ha:aK ι a v) (hb:aK ι b z) (h:aC c a b=some r) :
 ∃ x,(do pure (if ← asBool u then v else z):Sem Value).run P w = .ok x w/\aK ι r x:=by
 unfold aC at h
 split at h
 · cases hc;cases h;exact ⟨v,rfl,ha⟩
 · cases hc;cases h;exact ⟨z,rfl,hb⟩
 · cases h
theorem K5 {op:UnOp} {x:T} {u:Value} {r:T} (hx:aK ι x u) (h:jZ op x=some r):∃ v,(Op.unary op u).run P w = .ok v w/\aK ι r v:=by
 unfold jZ at h
 split at h
 · cases hx;cases h;exact ⟨_,rfl,rfl⟩
 · cases hx;cases h;exact ⟨_,rfl,rfl⟩
 · cases hx;cases h;exact ⟨_,rfl,rfl⟩
 · cases h
theorem rS {x:T} {n j:Nat} {u:Value} (hx:aK ι x u) (h:nP x n=some j):∃ k i,u = .int k i/\0<=i/\i<n/\i.toNat=j:=by
 unfold nP at h
 split at h
 · rename_i k i
   cases hx
   split at h
   · rename_i hb;cases h;exact ⟨k,i,rfl,hb.1,hb.2,rfl⟩
   · cases h
 · cases h
theorem jH {x:T} {n m j:Nat} {u:Value} (hx:aK ι x u) (h:nj x n=some j) (hm:n<=m) (code:BoundsCode):(Instr.sliceBound u m code).run P w = .ok j w/\j<=n:=by
 unfold nj at h
 split at h
 · rename_i k i
   cases hx
   split at h
   · rename_i hb
     cases h
     have:0<=i/\i<=(m:Int):=⟨hb.1,by omega⟩
     exact ⟨by simp [Instr.sliceBound,asIntOf,run_bind,run_pure,this],by omega⟩
   · cases h
 · cases h
def mR (ι:bV) (x:Option T) (u:Option Value):Prop :=
 match x,u with
 | some x,some u=>aK ι x u
 | none,none=>True
 | _,_=>False
theorem ff {len lim cap:Nat} {lo hi mx:Option T} {lo' hi' mx':Option Value} {l h m:Nat} (h1:mR ι lo lo') (h2:mR ι hi hi') (h3:mR ι mx mx')
 (hb:da len lim lo hi mx=some (l,h,m)) (hlim:lim<=cap) (hlen:len<=lim) (Y5:Bool) :
 (Instr.sliceBounds Y5 len cap lo' hi' mx').run P w = .ok (l,h,if mx.isSome then m else cap) w/\l<=h/\h<=m/\m<=lim/\(mx=none->m=lim):=by
 unfold da at hb
 split at hb
 · cases hb
 · rename_i m' hm
   split at hb
   · cases hb
   · rename_i h' hh
     split at hb
     · cases hb
     · rename_i l' hl
       cases hb
       match mx,mx',h3 with
       | none,none,_ =>
         cases hm
         match hi,hi',h2 with
         | none,none,_ =>
           cases hh
           match lo,lo',h1 with
           | none,none,_=>cases hl;simp [Instr.sliceBounds,run_bind,run_pure];omega
           | some lo,some lo',h1 =>
             obtain ⟨r,hr⟩:=jH (P:=P) (w:=w) h1 hl (Nat.le_refl _) (if false=true then .slice3C else .sliceB)
             simp only [Bool.false_eq_true,if_false] at r
             simp [Instr.sliceBounds,run_bind,run_pure,r];omega
         | some hi,some hi',h2 =>
           obtain ⟨r,hr⟩:=jH (P:=P) (w:=w) h2 hh hlim (if Y5 then .sliceAcap else .sliceAlen)
           match lo,lo',h1 with
           | none,none,_=>cases hl;simp [Instr.sliceBounds,run_bind,run_pure,r];omega
           | some lo,some lo',h1 =>
             obtain ⟨r',hr'⟩:=jH (P:=P) (w:=w) h1 hl (Nat.le_refl _) (if false=true then .slice3C else .sliceB)
             simp only [Bool.false_eq_true,if_false] at r'
             simp [Instr.sliceBounds,run_bind,run_pure,r,r'];omega
       | some mx,some mx',h3 =>
         obtain ⟨rm,hrm⟩:=jH (P:=P) (w:=w) h3 hm hlim (if Y5 then .slice3Acap else .slice3Alen)
         match hi,hi',h2 with
         | none,none,_=>cases hh
         | some hi,some hi',h2 =>
           obtain ⟨r,hr⟩:=jH (P:=P) (w:=w) h2 hh (Nat.le_refl _) .slice3B
           match lo,lo',h1 with
           | none,none,_=>cases hl;simp [Instr.sliceBounds,run_bind,run_pure,rm,r];omega
           | some lo,some lo',h1 =>
             obtain ⟨r',hr'⟩:=jH (P:=P) (w:=w) h1 hl (Nat.le_refl _) (if true=true then .slice3C else .sliceB)
             simp only [if_true] at r'
             simp [Instr.sliceBounds,run_bind,run_pure,rm,r,r'];omega
end
def sn (P:Program) (fs:Array Field) (ev:Operand->T):List (Nat×Operand)->Option (List (Nat×Nat×T))
 | []=>some []
 | (i,x)::r=>match fs[i]? with
   | some f=>match cQ P f.type,sn P fs ev r with
     | some n,some l=>some ((f.offset,n,ev x)::l)
     | _,_=>none
   | none=>none
def mI (n:Nat) (ev:Operand->T):List (Nat×Operand)->List (Nat×Nat×T)
 | []=>[]
 | (i,x)::r=>(i*n,n,ev x)::mI n ev r
def aU:Option (List S)->Option T
 | some l=>some (.v (.agg l))
 | none=>none
def Ic (P:Program) (fs:Array Field):Bool:=fs.all fun f=>(cQ P f.type).isSome
def oJ (P:Program) (op:Op) (ev:Operand->T):Option T :=
 match op with
 | .move x=>some (ev x)
 | .assign x=>some (ev x)
 | .pick c a b=>aC (ev c) (ev a) (ev b)
 | .build t parts=>match zeroOf P t,P.underlying t with
   | some z,some (.struct fs)=>if Ic P fs then match sn P fs ev parts.toList with
     | some l=>aU (aG z.cells l)
     | none=>none
     else none
   | some z,some (.array _ e)=>match cQ P e with
     | some n=>aU (aG z.cells (mI n ev parts.toList))
     | none=>none
   | _,_=>none
 | .nilCheck x=>bg (ev x)
 | .binOp op t x y _=>match P.underlying t with
   | some (.int _)=>af op (ev x) (ev y)
   | some .string=>af op (ev x) (ev y)
   | _=>match op,P7 P t with
     | .eql,some .i=>if isConst x||isConst y then (match Be .i (ev x) (ev y) with | some b=>some (B b) | none=>none) else none
     | .neq,some .i=>if isConst x||isConst y then (match Be .i (ev x) (ev y) with | some b=>some (B (!b)) | none=>none) else none
     | .eql,some k=>match Be k (ev x) (ev y) with | some b=>some (B b) | none=>none
     | .neq,some k=>match Be k (ev x) (ev y) with | some b=>some (B (!b)) | none=>none
     | _,_=>none
 | .unOp op _ x=>jZ op (ev x)
 | .convert s d x=>match P.underlying s,P.underlying d with
   | some _,some (.int k)=>aI k (ev x)
   | some .string,some .string=>GD (ev x)
   | _,_=>none
 | .makeFunc (.func f) first fS=>if first.size=0 then rG f (fS.toList.map ev) [] else none
 | .slice t x lo hi mx=>match P.underlying t with
   | some .string=>bD (ev x) (lo.map ev) (hi.map ev) (mx.map ev)
   | some (.slice e)=>match cQ P e with
     | some n=>aB n (ev x) (lo.map ev) (hi.map ev) (mx.map ev)
     | none=>none
   | some (.array k e)=>match cQ P e with
     | some n=>pF k n (ev x) (lo.map ev) (hi.map ev) (mx.map ev)
     | none=>none
   | _=>none
 | .fieldAddr s x f=>match P.underlying s with
   | some (.struct fs)=>match fs[f]? with
     | some fd=>match cQ P fd.type with
       | some (_+1)=>ae fd.offset (ev x)
       | _=>none
     | none=>none
   | _=>none
 | .field t x f=>match P.underlying t with
   | some (.struct fs)=>match fs[f]? with
     | some fd=>match Fj P fd.type with
       | some k=>px k fd.offset (ev x)
       | none=>none
     | none=>none
   | _=>none
 | .indexAddr t x i=>match P.underlying t with
   | some (.slice e)=>match cQ P e with
     | some n=>av n (ev x) (ev i)
     | none=>none
   | some (.array k e)=>match cQ P e with
     | some n=>bz k n (ev x) (ev i)
     | none=>none
   | _=>none
 | .index t x i=>match P.underlying t with
   | some .string=>dG (ev x) (ev i)
   | some (.array k e)=>match cQ P e,Fj P e with
     | some n,some pk=>nh pk k n (ev x) (ev i)
     | _,_=>none
   | _=>none
 | .extract x i=>ah (ev x) i
 | .call { callee := .builtin .len,args,argTypes }=>match args.toList,argTypes.toList with
   | [x],[t]=>match P.underlying t with
     | some .string=>bN (ev x)
     | some (.slice _)=>az (ev x)
     | some (.array n _)=>some (I .i64 n)
     | _=>none
   | _,_=>none
 | .call { callee := .builtin .cap,args,argTypes }=>match args.toList,argTypes.toList with
   | [x],[t]=>match P.underlying t with
     | some (.slice _)=>zc (ev x)
     | _=>none
   | _,_=>none
 | .call { callee := .builtin .min,args,.. }=>match args.toList.map ev with
   | x::r=>kM nQ x r
   | []=>none
 | .call { callee := .builtin .max,args,.. }=>match args.toList.map ev with
   | x::r=>kM vr x r
   | []=>none
 | _=>none
section
variable {P:Program} {ι:bV} {w:World}
theorem wL {s:Sem Value} {x:Value} (h:s.run P w = .ok x w):(do pure (Next.value (← s)):Sem Next).run P w = .ok (.value x) w:=by
 simp only [run_bind,h,run_pure]
theorem nI (cs:List Value) (i:Nat) (v:Value):cs.toArray.setIfInBounds i v=(cs.set i v).toArray:=by simp
theorem EI (off:Nat):∀ (xs:List Value) (k:Nat) (cs:List Value),∃ ds,(xs.zipIdx k).foldl (fun (a:Array Value) (p:Value×Nat)=>a.setIfInBounds (off+p.2) p.1) cs.toArray=ds.toArray ∧
 ∀ {ys zs:List S},aT (ba ι) ys xs->aT (ba ι) zs cs->aT (ba ι) (aO zs (off+k) ys) ds:=by
 intro xs
 induction xs with
 | nil =>
   intro k cs
   refine ⟨cs,rfl,?_⟩
   intro ys zs hy hz
   cases hy;exact hz
 | cons x xs ih =>
   intro k cs
   obtain ⟨ds,h1,h2⟩:=ih (k+1) (cs.set (off+k) x)
   refine ⟨ds,?_,?_⟩
   · rw [List.zipIdx_cons,List.foldl_cons,nI]
     exact h1
   · intro ys zs hy hz
     cases hy with
     | cons a hy =>
       simp only [aO]
       refine h2 hy ?_
       refine lK (by simp [aA hz]) ?_
       intro j y z yP uY
       by_cases e:off+k=j
       · subst e
         by_cases hl:off+k<zs.length
         · rw [List.getElem?_set_self hl] at yP
           rw [List.getElem?_set_self (by rw [← aA hz];exact hl)] at uY
           cases yP;cases uY;exact a
         · rw [List.getElem?_eq_none (by simp;omega)] at yP;cases yP
       · rw [List.getElem?_set_ne e] at yP uY
         obtain ⟨z',EV,r⟩:=bn hz j y yP
         rw [uY] at EV;cases EV;exact r
theorem uS (off:Nat) (v:Value) (cs:List Value):∃ ds,(v.cells.zipIdx.foldl (fun (a:Array Value) (p:Value×Nat)=>a.setIfInBounds (off+p.2) p.1) cs.toArray)=ds.toArray ∧
 ∀ {ys zs:List S},aT (ba ι) ys v.cells.toList->aT (ba ι) zs cs->aT (ba ι) (aO zs off ys) ds:=by
 obtain ⟨ds,h1,h2⟩:=EI (ι:=ι) off v.cells.toList 0 cs
 refine ⟨ds,?_,?_⟩
 · rw [← h1,← Array.foldl_toList]
   congr 1
   simp
 · intro ys zs hy hz
   have:=h2 hy hz
   simpa using this
theorem py {place:Nat->Option (Nat×Nat)}:∀ (parts:List (Nat×Value)) (l:List (Nat×Nat×T)) (zs:List S) (cs:List Value) (ys:List S),
 aT (fun (a:Nat×Nat×T) (b:Nat×Value)=>place b.1=some (a.1,a.2.1)/\aK ι a.2.2 b.2) l parts->aT (ba ι) zs cs->aG zs l=some ys →
 ∃ ds:List Value,Instr.fill place cs.toArray parts=some ds.toArray/\aT (ba ι) ys ds:=by
 intro parts
 induction parts with
 | nil =>
   intro l zs cs ys hl hz h
   cases hl
   cases h
   exact ⟨cs,rfl,hz⟩
 | cons p parts ih =>
   intro l zs cs ys hl hz h
   cases hl with
   | @cons a _ l _ hr hl =>
     obtain ⟨off,n,t⟩:=a
     obtain ⟨i,v⟩:=p
     obtain ⟨hp,ht⟩:=hr
     cases t with
     | any=>cases h
     | eF _=>cases h
     | v x =>
       simp only [aG] at h
       split at h
       · rename_i hc
         have hcells:=bS.cells ht
         have hlen:v.cells.size=n:=by have:=aA hcells;simp at this;omega
         obtain ⟨ds,h1,h2⟩:=uS (ι:=ι) off v cs
         obtain ⟨es,h3,h4⟩:=ih l _ ds ys hl (h2 hcells hz) h
         refine ⟨es,?_,h4⟩
         have hzl:=aA hz
         simp only at hp
         simp only [Instr.fill,hp]
         rw [if_neg (by simp;omega)]
         rw [← h3,← h1]
       · cases h
theorem Ae (fs:List Field) (h:∀ f∈fs,∃ n,cQ P f.type=some n):∃ l:List (Nat×Nat),(fs.mapM fun f=>(do pure (f.offset,← sizeOf f.type):Sem (Nat×Nat))).run P w = .ok l w ∧
 ∀ i:Nat,l[i]? = (fs[i]?).bind fun f=>(cQ P f.type).map fun n=>(f.offset,n):=by
 induction fs with
 | nil=>exact ⟨[],by simp [run_pure],by simp⟩
 | cons f fs ih =>
   obtain ⟨l,h1,h2⟩:=ih fun g hg=>h g (by simp [hg])
   obtain ⟨n,hn⟩:=h f (by simp)
   refine ⟨(f.offset,n)::l,?_,?_⟩
   · simp only [List.mapM_cons,run_bind,cV hn,run_pure,h1]
   · intro i
     cases i with
     | zero=>simp [hn]
     | succ i=>simpa using h2 i
end
section
variable {P:Program} {ι:bV} {w:World}
theorem yj {i o:Nat} {L:Loc} {b off:Nat} (h:ι i=some L) (hb:b=L.b) (ho:off=L.base+o):aK ι (Z (.ptr i o)) (.pointer (some ⟨b,off,none⟩)):=by
 subst hb ho;exact ⟨L,h,rfl⟩
theorem Es {t:TypeId} {parts:Array (Nat×Operand)} {ev:Operand->T} {ρ:Operand->Value} {r:T} (cW:∀ p∈parts,aK ι (ev p.2) (ρ p.2))
 (h:oJ P (.build t parts) ev=some r):∃ v,(Instr.build t (parts.map fun p=>(p.1,ρ p.2))).run P w = .ok v w/\aK ι r v:=by
 simp only [oJ] at h
 split at h
 · rename_i z fs hz hu
   split at h
   · rename_i hfo
     split at h
     · rename_i l hl
       obtain ⟨zv,yQ,ep⟩:=fK (P:=P) (w:=w) (ι:=ι) hz
       have Bi:=bS.cells ep
       obtain ⟨pl,hp1,hp2⟩:=Ae (P:=P) (w:=w) fs.toList (fun f hf=>by
        have:=(Array.all_eq_true_iff_forall_mem.1 hfo) f (by simpa using hf)
        exact Option.isSome_iff_exists.1 this)
       cases hf:aG z.cells l with
       | none=>rw [hf] at h;cases h
       | some ys =>
         rw [hf] at h;cases h
         have hall:∀ (pp:List (Nat×Operand)) (l:List (Nat×Nat×T)),(∀ p∈pp,aK ι (ev p.2) (ρ p.2))->sn P fs ev pp=some l →
          aT (fun (a:Nat×Nat×T) (b:Nat×Value)=>(pl[b.1]? : Option (Nat×Nat))=some (a.1,a.2.1)/\aK ι a.2.2 b.2) l (pp.map fun p=>(p.1,ρ p.2)):=by
          intro pp
          induction pp with
          | nil=>intro l _ h;cases h;exact .nil
          | cons p pp ih =>
            intro l cW h
            obtain ⟨i,x⟩:=p
            simp only [sn] at h
            split at h
            · rename_i f hfi
              split at h
              · rename_i n l' hn sc
                cases h
                refine .cons ⟨?_,cW (i,x) (by simp)⟩ (ih l' (fun p hp=>cW p (by simp [hp])) sc)
                rw [hp2]
                simp [hfi,hn]
              · cases h
            · cases h
         obtain ⟨ds,B7,ER⟩:=py (ι:=ι) (place:=(pl[·]?)) (parts.toList.map fun p=>(p.1,ρ p.2)) l z.cells zv.cells.toList ys (hall parts.toList l (fun p hp=>cW p (by simpa using hp)) hl) Bi hf
         refine ⟨.agg ds.toArray,?_,ds,rfl,ER⟩
         have RA:(fs.mapM fun f=>(do pure (f.offset,← sizeOf f.type):Sem (Nat×Nat))).run P w = .ok pl.toArray w:=by
          rw [← Array.toArray_toList (xs:=fs),List.mapM_toArray]
          show ((Functor.map _ _:Sem _)).run P w=_
          rw [map_eq_pure_bind,run_bind,hp1]
          simp [run_pure]
         simp only [Instr.build,run_bind,yQ,aN hu]
         rw [RA]
         simp only []
         have e:(fun (x:Nat)=>pl.toArray[x]?)=(fun (x:Nat)=>pl[x]?):=by funext x;simp
         have e2:(parts.map fun p=>(p.1,ρ p.2)).toList=parts.toList.map fun p=>(p.1,ρ p.2):=by simp
         rw [e,e2]
         simp only [Array.toArray_toList] at B7
         rw [B7]
         rfl
     · cases h
   · cases h
 · rename_i z k e hz hu
   split at h
   · rename_i n hn
     obtain ⟨zv,yQ,ep⟩:=fK (P:=P) (w:=w) (ι:=ι) hz
     have Bi:=bS.cells ep
     cases hf:aG z.cells (mI n ev parts.toList) with
     | none=>rw [hf] at h;cases h
     | some ys =>
       rw [hf] at h;cases h
       have hall:∀ (pp:List (Nat×Operand)),(∀ p∈pp,aK ι (ev p.2) (ρ p.2)) →
        aT (fun (a:Nat×Nat×T) (b:Nat×Value)=>(some (b.1*n,n):Option (Nat×Nat))=some (a.1,a.2.1)/\aK ι a.2.2 b.2) (mI n ev pp) (pp.map fun p=>(p.1,ρ p.2)):=by
        intro pp
        induction pp with
        | nil=>intro _;exact .nil
        | cons p pp ih =>
          intro cW
          exact .cons ⟨rfl,cW p (by simp)⟩ (ih fun q hq=>cW q (by simp [hq]))
       obtain ⟨ds,B7,ER⟩:=py (ι:=ι) (place:=fun i=>some (i*n,n)) (parts.toList.map fun p=>(p.1,ρ p.2)) _ z.cells zv.cells.toList ys (hall parts.toList (fun p hp=>cW p (by simpa using hp))) Bi hf
       refine ⟨.agg ds.toArray,?_,ds,rfl,ER⟩
       have e2:(parts.map fun p=>(p.1,ρ p.2)).toList=parts.toList.map fun p=>(p.1,ρ p.2):=by simp
       simp only [Array.toArray_toList] at B7
       simp only [Instr.build,run_bind,yQ,aN hu,cV hn,e2,B7]
       rfl
   · cases h
 · cases h
end
section
variable {P:Program} {ι:bV} {w:World}
theorem tZ {ev:Operand->T} {ρ:Operand->Value} {x:Option Operand} (h:∀ y,x=some y->aK ι (ev y) (ρ y)):mR ι (x.map ev) (x.map ρ):=by
 cases x with
 | none=>trivial
 | some y=>exact h y rfl
theorem yg {t:TypeId} {x:T} {u:Value} {lo hi mx:Option T} {lo' hi' mx':Option Value} {r:T} (hu:P.underlying t=some .string) (hx:aK ι x u)
 (h1:mR ι lo lo') (h2:mR ι hi hi') (h3:mR ι mx mx') (h:bD x lo hi mx=some r) :
 ∃ v,(Instr.sliceAt t u lo' hi' mx').run P w = .ok v w/\aK ι r v:=by
 unfold bD at h
 split at h
 · rename_i s
   split at h
   · rename_i l h' m hb
     cases h
     obtain ⟨s',rfl,rfl⟩:=hx
     match mx',h3 with
     | none,_ =>
       rw [← size_data] at hb
       obtain ⟨hr,hl,hh,hm,_⟩:=ff (P:=P) (w:=w) (ι:=ι) (cap:=s'.size) h1 h2 (mx:=none) (mx':=none) trivial hb (Nat.le_refl _) (Nat.le_refl _) false
       refine ⟨.string (s'.extract l h'),?_,s'.extract l h',rfl,?_⟩
       · simp only [Instr.sliceAt,run_bind,aN hu,Instr.slice,Option.isSome_none,Bool.false_eq_true,if_false,hr,run_pure]
       · rw [ByteArray.data_extract]
         simp [List.drop_take]
   · cases h
 · cases h
theorem Aq {t e:TypeId} {n:Nat} {x:T} {u:Value} {lo hi mx:Option T} {lo' hi' mx':Option Value} {r:T} (hu:P.underlying t=some (.slice e)) (hn:cQ P e=some n) (hx:aK ι x u)
 (h1:mR ι lo lo') (h2:mR ι hi hi') (h3:mR ι mx mx') (h:aB n x lo hi mx=some r) :
 ∃ v,(Instr.sliceAt t u lo' hi' mx').run P w = .ok v w/\aK ι r v:=by
 have base:∀ (mx':Option Value) (a:Option Addr) (len cap:Nat),(Instr.sliceAt t (.slice a len cap) lo' hi' mx').run P w =
  match (Instr.sliceBounds true len cap lo' hi' mx').run P w with
  | .ok (l,h,m) w' => .ok (.slice (if m=l then a else a.map (·.add (l*n))) (h-l) (m-l)) w'
  | .halt x w' => .halt x w':=by
  intro mx' a len cap
  simp only [Instr.sliceAt,run_bind,aN hu,Instr.slice]
  cases (Instr.sliceBounds true len cap lo' hi' mx').run P w with
  | halt x w'=>rfl
  | ok p w'=>simp only [cV hn,run_pure]
 unfold aB at h
 split at h
 · rename_i b o len c
   split at h
   · rename_i l h' m hb
     cases h
     obtain ⟨L,hL,rfl,hlc⟩:=hx
     obtain ⟨hr,hl,hh,hm,Nu⟩:=ff (P:=P) (w:=w) (ι:=ι) (cap:=c) h1 h2 h3 hb (Nat.le_refl _) hlc true
     have Nt:(if mx.isSome then m else c)=m:=by
      cases mx with
      | none=>simp [Nu rfl]
      | some _=>rfl
     rw [Nt] at hr
     refine ⟨_,by rw [base,hr],L,hL,?_,by omega⟩
     by_cases e:m=l
     · simp [e]
     · simp only [if_neg e,Option.map_some,add_eq,Nat.add_assoc]
   · cases h
 · rename_i b o len g
   split at h
   · rename_i hge
     subst hge
     obtain ⟨L,c,hL,rfl,hlc,hsz⟩:=hx
     split at h
     · rename_i l h' m hb
       obtain ⟨hr,hl,hh,hm,Nu⟩:=ff (P:=P) (w:=w) (ι:=ι) (cap:=c) h1 h2 h3 hb hlc (Nat.le_refl _) true
       split at h
       · cases h
         simp only [Option.isSome_some,if_true] at hr
         refine ⟨_,by rw [base,hr],L,hL,?_,by omega⟩
         by_cases e:m=l
         · simp [e]
         · simp only [if_neg e,Option.map_some,add_eq,Nat.add_assoc]
       · simp only [Option.isSome_none,Bool.false_eq_true,if_false] at hr
         have hm':=Nu rfl
         split at h
         · rename_i hlt
           cases h
           refine ⟨_,by rw [base,hr],L,c-l,hL,?_,by omega,?_⟩
           · rw [if_neg (by omega)];simp only [Option.map_some,add_eq,Nat.add_assoc]
           · have:l*g+(c-l)*g=c*g:=by rw [← Nat.add_mul];congr 1;omega
             omega
         · rename_i hlt
           cases h
           have Pa:h'-l=0:=by omega
           have jy:l=len:=by omega
           subst jy
           by_cases e:c=l
           · refine ⟨_,by rw [base,hr],L,⟨L.b,L.base+o,none⟩,c-l,hL,?_,?_⟩
             · rw [if_pos e,Pa]
             · exact .inl (by omega)
           · refine ⟨_,by rw [base,hr],L,⟨L.b,L.base+(o+l*g),none⟩,c-l,hL,?_,?_⟩
             · rw [if_neg e,Pa];simp only [Option.map_some,add_eq,Nat.add_assoc]
             · have:l*g+(c-l)*g=c*g:=by rw [← Nat.add_mul];congr 1;omega
               exact .inr ⟨o+l*g,rfl,by omega⟩
     · cases h
   · cases h
 · rename_i b g
   split at h
   · rename_i hge
     subst hge
     obtain ⟨L,a,c,hL,rfl,hsz⟩:=hx
     split at h
     · rename_i q hb
       obtain ⟨l,h',m⟩:=q
       cases h
       match mx',h3 with
       | none,_ =>
         obtain ⟨hr,hl,hh,hm,Nu⟩:=ff (P:=P) (w:=w) (ι:=ι) (cap:=c) h1 h2 (mx:=none) (mx':=none) trivial hb (Nat.zero_le _) (Nat.le_refl _) true
         simp only [Option.isSome_none,Bool.false_eq_true,if_false] at hr
         have hl0:l=0:=by omega
         have hh0:h'=0:=by omega
         subst hl0 hh0
         refine ⟨_,by rw [base,hr],L,a,c,hL,?_,hsz⟩
         by_cases e:c=0
         · simp [e]
         · simp [e,add_eq,Go.Addr.add]
     · cases h
   · cases h
 · split at h
   · rename_i q hb
     obtain ⟨l,h',m⟩:=q
     cases h
     simp only [aK,bS,ba] at hx;subst hx
     obtain ⟨hr,hl,hh,hm,Nu⟩:=ff (P:=P) (w:=w) (ι:=ι) (cap:=0) h1 h2 h3 hb (Nat.le_refl _) (Nat.le_refl _) true
     have Nt:(if mx.isSome then m else 0)=0:=by
      cases mx with
      | none=>rfl
      | some _=>simp;omega
     rw [Nt] at hr
     have hl0:l=0:=by omega
     have hh0:h'=0:=by omega
     subst hl0 hh0
     exact ⟨_,by rw [base,hr],by simp [aK,bS,ba]⟩
   · cases h
 · cases h
end
section
variable {P:Program} {ι:bV} {w:World}
theorem yf {t e:TypeId} {k n:Nat} {x:T} {u:Value} {lo hi mx:Option T} {lo' hi' mx':Option Value} {r:T} (hu:P.underlying t=some (.array k e)) (hn:cQ P e=some n) (hx:aK ι x u)
 (h1:mR ι lo lo') (h2:mR ι hi hi') (h3:mR ι mx mx') (h:pF k n x lo hi mx=some r) :
 ∃ v,(Instr.sliceAt t u lo' hi' mx').run P w = .ok v w/\aK ι r v:=by
 unfold pF at h
 split at h
 · rename_i b o
   split at h
   · rename_i l h' m hb
     cases h
     obtain ⟨L,hL,rfl⟩:=hx
     obtain ⟨hr,hl,hh,hm,Nu⟩:=ff (P:=P) (w:=w) (ι:=ι) (cap:=k) h1 h2 h3 hb (Nat.le_refl _) (Nat.le_refl _) false
     have Nt:(if mx.isSome then m else k)=m:=by
      cases mx with
      | none=>simp [Nu rfl]
      | some _=>rfl
     rw [Nt] at hr
     refine ⟨.slice (some (if m=l then ⟨L.b,L.base+o,none⟩ else (⟨L.b,L.base+o,none⟩:Addr).add (l*n))) (h'-l) (m-l),?_,L,hL,?_,by omega⟩
     · simp only [Instr.sliceAt,run_bind,aN hu,Instr.sureAddr,run_pure,hr,cV hn]
     · by_cases e:m=l
       · simp [e]
       · simp only [if_neg e,add_eq,Nat.add_assoc]
   · cases h
 · cases h
theorem uR {s:TypeId} {fs:Array Field} {f n:Nat} {fd:Field} {x:T} {u:Value} {r:T} (hu:P.underlying s=some (.struct fs)) (hf:fs[f]? = some fd) (hn:cQ P fd.type=some (n+1))
 (hx:aK ι x u) (h:ae fd.offset x=some r):∃ v,(Instr.fieldAt s u f).run P w = .ok v w/\aK ι r v:=by
 unfold ae at h
 split at h
 · cases h
   obtain ⟨L,hL,rfl⟩:=hx
   refine ⟨_,?_,yj hL rfl rfl⟩
   simp only [Instr.fieldAt,run_bind,aN hu,hf,Instr.sureAddr,run_pure,fieldPlace,cV hn]
   rw [if_neg (by omega)]
   simp only [run_pure,add_eq,Nat.add_assoc]
 · cases h
theorem EG {s:TypeId} {fs:Array Field} {f:Nat} {fd:Field} {k:Option Nat} {x:T} {u:Value} {r:T} (hu:P.underlying s=some (.struct fs)) (hf:fs[f]? = some fd) (hk:Fj P fd.type=some k)
 (hx:aK ι x u) (h:px k fd.offset x=some r):∃ v,(Instr.field s u f).run P w = .ok v w/\aK ι r v:=by
 unfold px at h
 split at h
 · rename_i xs
   split at h
   · rename_i y hy
     cases h
     obtain ⟨cs,rfl,hcs⟩:=hx
     rw [← vt hk] at hy
     obtain ⟨v,hv,r⟩:=vu hcs hy w
     exact ⟨v,by simp only [Instr.field,run_bind,aN hu,hf,asAgg,run_pure,hv],r⟩
   · cases h
 · cases h
theorem zV {t e:TypeId} {n:Nat} {x i:T} {u v:Value} {r:T} (hu:P.underlying t=some (.slice e)) (hn:cQ P e=some n) (hx:aK ι x u) (hi:aK ι i v)
 (h:av n x i=some r):∃ z,(Instr.indexAt t u v).run P w = .ok z w/\aK ι r z:=by
 unfold av at h
 split at h
 · rename_i b o len cap
   split at h
   · rename_i j hj
     cases h
     obtain ⟨k,i,rfl,Bh,hi1,rfl⟩:=rS hi hj
     have hs:∃ L c,ι b=some L/\u = .slice (some ⟨L.b,L.base+o,none⟩) len c:=by
      cases cap with
      | known c=>obtain ⟨L,hL,e,_⟩:=hx;exact ⟨L,_,hL,e⟩
      | grown g=>obtain ⟨L,c,hL,e,_⟩:=hx;exact ⟨L,_,hL,e⟩
     obtain ⟨L,c,hL,rfl⟩:=hs
     refine ⟨_,?_,yj hL rfl rfl⟩
     simp only [Instr.indexAt,asIntOf,run_bind,run_pure,aN hu]
     rw [if_pos ⟨Bh,hi1⟩]
     simp only [run_bind,cV hn,run_pure,add_eq,Nat.add_assoc]
   · cases h
 · cases h
theorem xT {t e:TypeId} {m n:Nat} {x i:T} {u v:Value} {r:T} (hu:P.underlying t=some (.array m e)) (hn:cQ P e=some n) (hx:aK ι x u) (hi:aK ι i v)
 (h:bz m n x i=some r):∃ z,(Instr.indexAt t u v).run P w = .ok z w/\aK ι r z:=by
 unfold bz at h
 split at h
 · rename_i b o
   split at h
   · rename_i j hj
     cases h
     obtain ⟨k,i,rfl,Bh,hi1,rfl⟩:=rS hi hj
     obtain ⟨L,hL,rfl⟩:=hx
     refine ⟨_,?_,yj hL rfl rfl⟩
     simp only [Instr.indexAt,asIntOf,run_bind,run_pure,aN hu,Instr.sureAddr]
     rw [if_pos ⟨Bh,hi1⟩]
     simp only [run_bind,cV hn,run_pure,add_eq,Nat.add_assoc]
   · cases h
 · cases h
theorem Ep {t:TypeId} {x i:T} {u v:Value} {r:T} (hu:P.underlying t=some .string) (hx:aK ι x u) (hi:aK ι i v)
 (h:dG x i=some r):∃ z,(Instr.index t u v).run P w = .ok z w/\aK ι r z:=by
 unfold dG at h
 split at h
 · rename_i l
   split at h
   · rename_i j hj
     split at h
     · rename_i b hb
       cases h
       obtain ⟨k,i,rfl,Bh,hi1,rfl⟩:=rS hi hj
       obtain ⟨s,rfl,rfl⟩:=hx
       refine ⟨.int .u8 b.toNat,?_,rfl⟩
       have hlt:i.toNat<s.size:=by rw [size_data];omega
       have e:s[i.toNat]? = some b:=by
        rw [ByteArray.getElem?_lt' s i.toNat hlt]
        rw [← hb]
        rw [List.getElem?_eq_getElem (by rw [← size_data];exact hlt)]
        rfl
       simp only [Instr.index,asIntOf,run_bind,run_pure,aN hu,if_pos Bh,e]
     · cases h
   · cases h
 · cases h
theorem Em {t e:TypeId} {m n:Nat} {k:Option Nat} {x i:T} {u v:Value} {r:T} (hu:P.underlying t=some (.array m e)) (hn:cQ P e=some n) (hk:Fj P e=some k) (hx:aK ι x u) (hi:aK ι i v)
 (h:nh k m n x i=some r):∃ z,(Instr.index t u v).run P w = .ok z w/\aK ι r z:=by
 unfold nh at h
 split at h
 · rename_i xs
   split at h
   · rename_i j hj
     split at h
     · rename_i y hy
       cases h
       obtain ⟨kk,i,rfl,Bh,hi1,rfl⟩:=rS hi hj
       obtain ⟨cs,rfl,hcs⟩:=hx
       rw [← vt hk] at hy
       obtain ⟨v,hv,r⟩:=vu hcs hy w
       refine ⟨v,?_,r⟩
       simp only [Instr.index,asIntOf,run_bind,run_pure,aN hu]
       rw [if_pos ⟨Bh,hi1⟩]
       simp only [run_bind,cV hn,hv]
     · cases h
   · cases h
 · cases h
theorem Lf (f:FuncId):∀ (l:List T) (cs:List Value) (acc:List (Nat×Nat)) (ds:List Value) (r:T),aT (aK ι) l cs →
 aT (fun (p:Nat×Nat) (u:Value)=>∃ L,ι p.1=some L/\u = .pointer (some ⟨L.b,L.base+p.2,none⟩)) acc.reverse ds->rG f l acc=some r->aK ι r (.func (.func f) #[] (ds++cs).toArray):=by
 intro l
 induction l with
 | nil =>
   intro cs acc ds r hl ha h
   cases hl
   cases h
   rw [List.append_nil]
   exact ⟨ds,rfl,ha⟩
 | cons x l ih =>
   intro cs acc ds r hl ha h
   cases hl with
   | @cons _ v _ cs hx hl =>
     cases x with
     | any=>cases h
     | eF _=>cases h
     | v x=>cases x with
       | agg _=>cases h
       | s x =>
         cases x<;>first | (cases h;done) | skip
         rename_i i o
         obtain ⟨L,hL,rfl⟩:=hx
         have:=ih cs ((i,o)::acc) (ds++[.pointer (some ⟨L.b,L.base+o,none⟩)]) r hl (by
          rw [List.reverse_cons]
          exact bq ha (.cons ⟨L,hL,rfl⟩ .nil)) h
         simpa using this
theorem tC (f:T->T->Option T) (g:Value->Value->Sem Value) (hfg:∀ (x y r:T) (u v:Value),aK ι x u->aK ι y v->f x y=some r->∃ z,(g u v).run P w = .ok z w/\aK ι r z) :
 ∀ (l:List T) (x r:T) (u:Value) (vs:List Value),aT (aK ι) l vs->aK ι x u->kM f x l=some r->∃ z,(vs.foldlM g u).run P w = .ok z w/\aK ι r z:=by
 intro l
 induction l with
 | nil=>intro x r u vs hl hx h;cases hl;cases h;exact ⟨u,rfl,hx⟩
 | cons y l ih =>
   intro x r u vs hl hx h
   cases hl with
   | @cons _ v _ vs hy hl =>
     simp only [kM] at h
     split at h
     · rename_i z hz
       obtain ⟨z',h1,h2⟩:=hfg x y z u v hx hy hz
       obtain ⟨z'',h3,h4⟩:=ih z r z' vs hl h2 h
       exact ⟨z'',by simp only [List.foldlM_cons,run_bind,h1,h3],h4⟩
     · cases h
theorem Jp (x y r:T) (u v:Value) (hx:aK ι x u) (hy:aK ι y v) (h:nQ x y=some r):∃ z,(Builtin.min2 u v).run P w = .ok z w/\aK ι r z:=by
 unfold nQ at h
 split at h
 · simp only [aK,bS,ba] at hx hy;subst hx hy;cases h;exact ⟨_,rfl,rfl⟩
 · cases h
theorem Jn (x y r:T) (u v:Value) (hx:aK ι x u) (hy:aK ι y v) (h:vr x y=some r):∃ z,(Builtin.max2 u v).run P w = .ok z w/\aK ι r z:=by
 unfold vr at h
 split at h
 · simp only [aK,bS,ba] at hx hy;subst hx hy;cases h;exact ⟨_,rfl,rfl⟩
 · cases h
theorem jJ {α:Type} {β γ:Type} {R:β->γ->Prop} {f:α->β} {g:α->γ}:∀ {l:List α},(∀ x∈l,R (f x) (g x))->aT R (l.map f) (l.map g)
 | [],_ => .nil
 | x::l,h => .cons (h x (by simp)) (jJ fun y hy=>h y (by simp [hy]))
theorem Of {x:T} {u:Value} {r:T} {ρ:Operand->Value} {o:Oper} {a:Operand} (ho:o.op = .nilCheck a) (hu:ρ a=u) (hx:aK ι x u) (h:bg x=some r) :
 ∃ v,(execOp ρ o).run P w = .ok (.value v) w/\aK ι r v:=by
 unfold bg at h
 split at h
 · cases h
   obtain ⟨L,hL,e⟩:=hx
   refine ⟨u,?_,L,hL,e⟩
   simp only [execOp,ho,hu,e,run_pure]
 · cases h
   obtain ⟨cs,e,r⟩:=hx
   refine ⟨u,?_,cs,e,r⟩
   simp only [execOp,ho,hu,e,run_pure]
 · cases h
end
section
variable {P:Program} {ι:bV} {w:World}
theorem Om {o:Oper} {ev:Operand->T} {ρ:Operand->Value} {r:T} (cW:∀ x∈o.op.operands,aK ι (ev x) (ρ x)) (h:oJ P o.op ev=some r) :
 ∃ v,(execOp ρ o).run P w = .ok (.value v) w/\aK ι r v:=by
 obtain ⟨dst,op,ty,pos,after,guard⟩:=o
 simp only at cW h
 have fin:∀ (s:Sem Value),execOp ρ ⟨dst,op,ty,pos,after,guard⟩=(do pure (Next.value (← s)))->(∃ v,s.run P w = .ok v w/\aK ι r v) →
  ∃ v,(execOp ρ ⟨dst,op,ty,pos,after,guard⟩).run P w = .ok (.value v) w/\aK ι r v:=by
  intro s he ⟨v,h1,h2⟩
  exact ⟨v,by rw [he];exact wL h1,h2⟩
 cases op with
 | move x=>simp only [oJ] at h;cases h;exact ⟨ρ x,rfl,cW x (by simp [Op.operands])⟩
 | assign x=>simp only [oJ] at h;cases h;exact ⟨ρ x,rfl,cW x (by simp [Op.operands])⟩
 | pick c a b =>
   simp only [oJ] at h
   obtain ⟨v,h1,h2⟩:=Ei (P:=P) (w:=w) (cW c (by simp [Op.operands])) (cW a (by simp [Op.operands])) (cW b (by simp [Op.operands])) h
   refine ⟨v,?_,h2⟩
   simp only [run_bind] at h1
   simp only [execOp,run_bind]
   cases hb:(asBool (ρ c)).run P w with
   | halt x w'=>rw [hb] at h1;cases h1
   | ok b w' =>
     rw [hb] at h1
     simp only [run_pure] at h1 ⊢
     cases h1;rfl
 | build t parts =>
   refine fin _ rfl (Es (ev:=ev) ?_ h)
   intro p hp
   refine cW p.2 ?_
   simp only [Op.operands,List.mem_toArray,List.mem_map]
   exact ⟨p,by simpa using hp,rfl⟩
 | nilCheck x=>simp only [oJ] at h;exact Of rfl rfl (cW x (by simp [Op.operands])) h
 | binOp op t x y yt =>
   have hx:=cW x (by simp [Op.operands])
   have hy:=cW y (by simp [Op.operands])
   simp only [oJ] at h
   split at h
   · exact fin _ rfl (za hx hy h x y)
   · exact fin _ rfl (za hx hy h x y)
   · split at h
     · rename_i hk
       split at h
       · rename_i hc
         split at h
         · rename_i b hb
           cases h
           exact fin _ rfl ⟨_,rR (P:=P) hk hx hy hb false x y (fun _=>hc),by simp [aK,bS,ba]⟩
         · cases h
       · cases h
     · rename_i hk
       split at h
       · rename_i hc
         split at h
         · rename_i b hb
           cases h
           exact fin _ rfl ⟨_,rR (P:=P) hk hx hy hb true x y (fun _=>hc),by simp [aK,bS,ba]⟩
         · cases h
       · cases h
     · rename_i k hne hk
       split at h
       · rename_i b hb
         cases h
         exact fin _ rfl ⟨_,rR (P:=P) hk hx hy hb false x y (fun e=>(hne e).elim),by simp [aK,bS,ba]⟩
       · cases h
     · rename_i k hne hk
       split at h
       · rename_i b hb
         cases h
         exact fin _ rfl ⟨_,rR (P:=P) hk hx hy hb true x y (fun e=>(hne e).elim),by simp [aK,bS,ba]⟩
       · cases h
     · cases h
 | unOp op t x=>simp only [oJ] at h;exact fin _ rfl (K5 (cW x (by simp [Op.operands])) h)
 | convert s d x =>
   have hx:=cW x (by simp [Op.operands])
   simp only [oJ] at h
   split at h
   · rename_i d' k hs hd
     unfold aI at h
     split at h
     · rename_i k' n he
       rw [he] at hx
       simp only [aK,bS,ba] at hx
       cases h
       refine fin _ rfl ⟨.int k (k.wrap n),?_,rfl⟩
       rw [hx]
       simp only [Go.convert,run_bind,aN hs,aN hd]
       cases d'<;>rfl
     · cases h
   · rename_i hs hd
     unfold GD at h
     split at h
     · rename_i l he
       cases h
       rw [he] at hx
       obtain ⟨s',e,r⟩:=hx
       have hr:aK ι (ev x) (.string s'):=by rw [he];exact ⟨s',rfl,r⟩
       refine fin _ rfl ⟨.string s',?_,hr⟩
       rw [e]
       simp only [Go.convert,run_bind,aN hs,aN hd]
       rfl
     · cases h
   · cases h
 | makeFunc fn first fS =>
   cases fn with
   | func f =>
     simp only [oJ] at h
     split at h
     · rename_i hf
       have hm:aT (aK ι) (fS.toList.map ev) (fS.toList.map ρ):=jJ fun x hx=>cW x (by simp [Op.operands];exact .inr (by simpa using hx))
       have:=Lf f _ _ [] [] r hm .nil h
       refine fin _ rfl ⟨.func (.func f) (first.map ρ) (fS.map ρ),rfl,?_⟩
       have e1:first = #[]:=Array.eq_empty_of_size_eq_zero hf
       subst e1
       have e2:fS.map ρ=(List.map ρ fS.toList).toArray:=by rw [← Array.toList_map]
       have e3:Array.map ρ #[] = #[]:=by simp
       rw [e2,e3]
       exact this
     · cases h
   | method _=>cases h
   | methodOf _ _=>cases h
   | via _ _ _ _=>cases h
   | yield _=>cases h
 | slice t x lo hi mx =>
   have hx:=cW x (by simp [Op.operands])
   have h1:mR ι (lo.map ev) (lo.map ρ):=tZ fun y hy=>cW y (by subst hy;simp [Op.operands])
   have h2:mR ι (hi.map ev) (hi.map ρ):=tZ fun y hy=>cW y (by subst hy;simp [Op.operands])
   have h3:mR ι (mx.map ev) (mx.map ρ):=tZ fun y hy=>cW y (by subst hy;simp [Op.operands])
   simp only [oJ] at h
   split at h
   · rename_i hu;exact fin _ rfl (yg hu hx h1 h2 h3 h)
   · rename_i e hu
     split at h
     · rename_i n hn;exact fin _ rfl (Aq hu hn hx h1 h2 h3 h)
     · cases h
   · rename_i k e hu
     split at h
     · rename_i n hn;exact fin _ rfl (yf hu hn hx h1 h2 h3 h)
     · cases h
   · cases h
 | fieldAddr s x f =>
   simp only [oJ] at h
   split at h
   · rename_i fs hu
     split at h
     · rename_i fd hf
       split at h
       · rename_i n hn;exact fin _ rfl (uR hu hf hn (cW x (by simp [Op.operands])) h)
       · cases h
     · cases h
   · cases h
 | field t x f =>
   simp only [oJ] at h
   split at h
   · rename_i fs hu
     split at h
     · rename_i fd hf
       split at h
       · rename_i k hk;exact fin _ rfl (EG hu hf hk (cW x (by simp [Op.operands])) h)
       · cases h
     · cases h
   · cases h
 | indexAddr t x i =>
   have hx:=cW x (by simp [Op.operands])
   have hi:=cW i (by simp [Op.operands])
   simp only [oJ] at h
   split at h
   · rename_i e hu
     split at h
     · rename_i n hn;exact fin _ rfl (zV hu hn hx hi h)
     · cases h
   · rename_i k e hu
     split at h
     · rename_i n hn;exact fin _ rfl (xT hu hn hx hi h)
     · cases h
   · cases h
 | index t x i =>
   have hx:=cW x (by simp [Op.operands])
   have hi:=cW i (by simp [Op.operands])
   simp only [oJ] at h
   split at h
   · rename_i hu;exact fin _ rfl (Ep hu hx hi h)
   · rename_i k e hu
     split at h
     · rename_i n pk hn hpk;exact fin _ rfl (Em hu hn hpk hx hi h)
     · cases h
   · cases h
 | extract x i =>
   have hx:=cW x (by simp [Op.operands])
   simp only [oJ] at h
   unfold ah at h
   split at h
   · rename_i l he
     rw [he] at hx
     obtain ⟨vs,hv,hr⟩:=hx
     split at h
     · rename_i y hy
       cases h
       obtain ⟨v,h1,h2⟩:=bn hr i y hy
       refine fin _ rfl ⟨v,?_,h2⟩
       rw [hv]
       simp [Instr.extract,h1,run_pure]
     · cases h
   · cases h
 | call c =>
   obtain ⟨callee,args,argTypes⟩:=c
   cases callee with
   | value f=>simp [oJ] at h
   | invoke r n=>simp [oJ] at h
   | builtin b =>
     have ha:∀ x∈args,aK ι (ev x) (ρ x):=fun x hx=>cW x (by simp [Op.operands,Call.operands,hx])
     have one:∀ {x:Operand},args.toList=[x]->args = #[x]:=by
      intro x e;rw [← Array.toArray_toList (xs:=args),e]
     have Oi:∀ {x:TypeId},argTypes.toList=[x]->argTypes = #[x]:=by
      intro x e;rw [← Array.toArray_toList (xs:=argTypes),e]
     have ht:aT (aK ι) (args.toList.map ev) (args.toList.map ρ):=jJ fun x hx=>ha x (by simpa using hx)
     cases b<;>first | (simp [oJ] at h;done) | skip
     · simp only [oJ] at h
       split at h
       · rename_i x t hx' Ce
         have ea:=one hx';have et:=Oi Ce;subst ea et
         have hx:=ha x (by simp)
         split at h
         · rename_i e hu
           unfold zc at h
           split at h
           · rename_i b o n c he
             cases h
             rw [he] at hx
             obtain ⟨L,hL,e',_⟩:=hx
             refine ⟨.int .i64 c,?_,rfl⟩
             simp [execOp,resolve,invoke,Go.builtin,run_bind,run_pure,Builtin.cap_,aN hu,e',goInt]
           · rename_i he
             cases h
             rw [he] at hx
             simp only [aK,bS,ba] at hx
             refine ⟨.int .i64 0,?_,rfl⟩
             simp [execOp,resolve,invoke,Go.builtin,run_bind,run_pure,Builtin.cap_,aN hu,hx,goInt]
           · cases h
         · cases h
       · cases h
     · simp only [oJ] at h
       split at h
       · rename_i x t hx' Ce
         have ea:=one hx';have et:=Oi Ce;subst ea et
         have hx:=ha x (by simp)
         split at h
         · rename_i hu
           unfold bN at h
           split at h
           · rename_i l he
             cases h
             rw [he] at hx
             obtain ⟨s,e',r⟩:=hx
             refine ⟨.int .i64 s.size,?_,?_⟩
             · simp [execOp,resolve,invoke,Go.builtin,run_bind,run_pure,Builtin.len_,aN hu,e',goInt]
             · subst r
               rw [size_data]
               rfl
           · cases h
         · rename_i e hu
           unfold az at h
           split at h
           · rename_i b o n c he
             cases h
             rw [he] at hx
             have hs:∃ a c,ρ x = .slice a n c:=by
              cases c with
              | known c=>obtain ⟨L,hL,e,_⟩:=hx;exact ⟨_,_,e⟩
              | grown g=>obtain ⟨L,c,hL,e,_⟩:=hx;exact ⟨_,_,e⟩
             obtain ⟨a,c,e'⟩:=hs
             refine ⟨.int .i64 n,?_,rfl⟩
             simp [execOp,resolve,invoke,Go.builtin,run_bind,run_pure,Builtin.len_,aN hu,e',goInt]
           · rename_i b g he
             cases h
             rw [he] at hx
             obtain ⟨L,o,c,hL,e',_⟩:=hx
             refine ⟨.int .i64 0,?_,rfl⟩
             simp [execOp,resolve,invoke,Go.builtin,run_bind,run_pure,Builtin.len_,aN hu,e',goInt]
           · rename_i he
             cases h
             rw [he] at hx
             simp only [aK,bS,ba] at hx
             refine ⟨.int .i64 0,?_,rfl⟩
             simp [execOp,resolve,invoke,Go.builtin,run_bind,run_pure,Builtin.len_,aN hu,hx,goInt]
           · cases h
         · rename_i n e hu
           cases h
           refine ⟨.int .i64 n,?_,rfl⟩
           simp [execOp,resolve,invoke,Go.builtin,run_bind,run_pure,Builtin.len_,aN hu,goInt]
         · cases h
       · cases h
     · simp only [oJ] at h
       split at h
       · rename_i x r' he
         rw [he] at ht
         cases hm:args.toList.map ρ with
         | nil=>rw [hm] at ht;cases ht
         | cons u vs =>
           rw [hm] at ht
           cases ht with
           | cons hx hr =>
             obtain ⟨z,h1,h2⟩:=tC (P:=P) (w:=w) vr Builtin.max2 Jn r' x r u vs hr hx h
             refine ⟨z,?_,h2⟩
             have e:(args.map ρ).toList=u::vs:=by simpa using hm
             simp only [execOp,resolve,invoke,Go.builtin,run_bind,run_pure,Builtin.max_,e,h1]
       · cases h
     · simp only [oJ] at h
       split at h
       · rename_i x r' he
         rw [he] at ht
         cases hm:args.toList.map ρ with
         | nil=>rw [hm] at ht;cases ht
         | cons u vs =>
           rw [hm] at ht
           cases ht with
           | cons hx hr =>
             obtain ⟨z,h1,h2⟩:=tC (P:=P) (w:=w) nQ Builtin.min2 Jp r' x r u vs hr hx h
             refine ⟨z,?_,h2⟩
             have e:(args.map ρ).toList=u::vs:=by simpa using hm
             simp only [execOp,resolve,invoke,Go.builtin,run_bind,run_pure,Builtin.min_,e,h1]
       · cases h
 | _=>cases h
end
abbrev Mem:=Nat->Option dV
def ab (x:T) (g:Mem):Option T :=
 match x with
 | .v (.s (.ptr i o))=>match g i with
   | some (.cells _ vs)=>match vs[o]? with
     | some y=>some (.v (.s y))
     | none=>none
   | _=>none
 | _=>none
def aH (n:Nat) (x:T) (g:Mem):Option T :=
 match x with
 | .v (.s (.ptr i o))=>match g i with
   | some (.cells _ vs)=>if o+n<=vs.length then some (.v (.agg ((vs.drop o).take n))) else none
   | _=>none
 | _=>none
def kH:List S->Option (List UInt8)
 | []=>some []
 | .int .u8 n::r=>match kH r with
   | some l=>some (UInt8.ofNat n.toNat::l)
   | none=>none
 | _::_=>none
def bR (x:T) (g:Mem):Option T :=
 match x with
 | .v (.s .ay)=>some (Z (.str []))
 | .v (.s (.emp _ _))=>some (Z (.str []))
 | .v (.s (.sl i o n _))=>if n=0 then some (Z (.str [])) else match g i with
   | some (.cells _ vs)=>if o+n<=vs.length then match kH ((vs.drop o).take n) with
    | some l=>some (Z (.str l))
    | none=>none
    else none
   | _=>none
 | _=>none
def jh:S->S->Option Bool
 | .int k a,.int k' b=>if k=k' then some (decide (a=b)) else none
 | .str a,.str b=>some (decide (a=b))
 | .bool a,.bool b=>some (decide (a=b))
 | _,_=>none
def fg (k:S):List (S×V)->Nat->Option (Option (Nat×V))
 | [],_=>some none
 | (q,v)::r,n=>match jh k q with
   | some true=>some (some (n,v))
   | some false=>fg k r (n+1)
   | none=>none
def gA (ok:Bool) (zero:V) (m k:T) (g:Mem):Option T :=
 match m,k with
 | .v (.s .mU),.v (.s _)=>some (if ok then .eF [zero,.s (.bool false)] else .v zero)
 | .v (.s (.map i)),.v (.s k)=>match g i with
   | some (.map es)=>match fg k es 0 with
     | some (some (_,v))=>some (if ok then .eF [v,.s (.bool true)] else .v v)
     | some none=>some (if ok then .eF [zero,.s (.bool false)] else .v zero)
     | none=>none
   | _=>none
 | _,_=>none
def gz (m:T) (g:Mem):Option T :=
 match m with
 | .v (.s .mU)=>some (I .i64 0)
 | .v (.s (.map i))=>match g i with
   | some (.map es)=>some (I .i64 es.length)
   | _=>none
 | _=>none
inductive KK where
 | i | s | b
 deriving DecidableEq
def xW (P:Program) (t:TypeId):Option KK :=
 match P.underlying t with
 | some (.int _)=>some .i
 | some .string=>some .s
 | some .bool=>some .b
 | _=>none
def isKey:KK->T->Bool
 | .i,.v (.s (.int _ _))=>true
 | .s,.v (.s (.str _))=>true
 | .b,.v (.s (.bool _))=>true
 | _,_=>false
def rM (P:Program) (op:Op) (ev:Operand->T) (g:Mem):Option T :=
 match op with
 | .load t a=>match dM P t with
   | some true=>match cQ P t with
     | some n=>aH n (ev a) g
     | none=>none
   | some false=>ab (ev a) g
   | none=>none
 | .convert s d x=>match P.underlying s,P.underlying d with
   | some (.slice e),some .string=>match P.underlying e with
     | some (.int .u8)=>bR (ev x) g
     | _=>none
   | _,_=>none
 | .lookup t x k ok=>match P.underlying t with
   | some (.map kt et)=>match xW P kt,zeroOf P et with
     | some kk,some z=>if isKey kk (ev k) then gA ok z (ev x) (ev k) g else none
     | _,_=>none
   | _=>none
 | .call { callee := .builtin .len,args,argTypes }=>match args.toList,argTypes.toList with
   | [x],[t]=>match P.underlying t with
     | some (.map _ _)=>gz (ev x) g
     | _=>none
   | _,_=>none
 | _=>none
section
variable {P:Program} {ι:bV} {w:World} {g:Mem}
theorem JD {op:Op} {ev:Operand->T} {g':Mem} {r:T} (hg:∀ i b,g i=some b->g' i=some b) (h:rM P op ev g=some r):rM P op ev g'=some r:=by
 have h1:∀ x r,ab x g=some r->ab x g'=some r:=by
  intro x r h
  unfold ab at h ⊢
  split at h
  · split at h
    · rename_i hb;simp only [hg _ _ hb];exact h
    · cases h
  · cases h
 have h2:∀ n x r,aH n x g=some r->aH n x g'=some r:=by
  intro n x r h
  unfold aH at h ⊢
  split at h
  · split at h
    · rename_i hb;simp only [hg _ _ hb];exact h
    · cases h
  · cases h
 have h3:∀ x r,bR x g=some r->bR x g'=some r:=by
  intro x r h
  unfold bR at h ⊢
  split at h
  · exact h
  · exact h
  · split at h
    · rename_i hz;rw [if_pos hz];exact h
    · rename_i hz
      rw [if_neg hz]
      split at h
      · rename_i hb;simp only [hg _ _ hb];exact h
      · cases h
  · cases h
 have h4:∀ ok z m k r,gA ok z m k g=some r->gA ok z m k g'=some r:=by
  intro ok z m k r h
  unfold gA at h ⊢
  split at h
  · exact h
  · split at h
    · rename_i hb;simp only [hg _ _ hb];exact h
    · cases h
  · cases h
 have h5:∀ m r,gz m g=some r->gz m g'=some r:=by
  intro m r h
  unfold gz at h ⊢
  split at h
  · exact h
  · split at h
    · rename_i hb;simp only [hg _ _ hb];exact h
    · cases h
  · cases h
 unfold rM at h ⊢
 split at h
 · split at h
   · split at h
     · exact h2 _ _ _ h
     · cases h
   · exact h1 _ _ h
   · cases h
 · split at h
   · split at h
     · exact h3 _ _ h
     · cases h
   · cases h
 · split at h
   · split at h
     · split at h
       · rename_i hc
         simp only [hc,if_true]
         exact h4 _ _ _ _ _ h
       · cases h
     · cases h
   · cases h
 · split at h
   · split at h
     · exact h5 _ _ h
     · cases h
   · cases h
 · cases h
theorem AZ:∀ {xs:List S} {cs:List Value} {l:List UInt8},aT (ba ι) xs cs->kH xs=some l->∃ ns:List Int,cs=ns.map (Value.int .u8)/\l=ns.map fun n=>UInt8.ofNat n.toNat:=by
 intro xs
 induction xs with
 | nil=>intro cs l h hl;cases h;cases hl;exact ⟨[],rfl,rfl⟩
 | cons x xs ih =>
   intro cs l h hl
   cases h with
   | cons a h =>
     unfold kH at hl
     split at hl
     · rename_i he;cases he
     · rename_i n r he
       cases he
       split at hl
       · rename_i l' sc
         cases hl
         obtain ⟨ns,rfl,rfl⟩:=ih h sc
         simp only [ba] at a
         subst a
         exact ⟨n::ns,rfl,rfl⟩
       · cases hl
     · cases hl
theorem foldl_push (ns:List Int):∀ (s:ByteArray),(ns.foldl (fun r n=>r.push (UInt8.ofNat n.toNat)) s).data.toList=s.data.toList++ns.map fun n=>UInt8.ofNat n.toNat:=by
 induction ns with
 | nil=>intro s;simp
 | cons n ns ih =>
   intro s
   rw [List.foldl_cons,ih]
   simp [ByteArray.data_push]
def mB (d:TypeDesc) (a:S):Prop:=match d,a with | .int _,.int _ _=>True | .string,.str _=>True | .bool,.bool _=>True | _,_=>False
theorem vW {a b:S} {u v:Value} {r:Bool} (ha:ba ι a u) (hb:ba ι b v) (h:jh a b=some r) (d:TypeDesc)
 (hk:mB d a) :
 Instr.sameNow d u v=some r:=by
 cases a<;>cases b<;>simp only [jh] at h<;>first | (cases h;done) | skip
 · simp only [ba] at ha hb;subst ha hb
   rename_i a b
   cases d<;>simp [mB] at hk
   cases h
   cases a<;>cases b<;>rfl
 · simp only [ba] at ha hb;subst ha hb
   cases d<;>simp [mB] at hk
   rename_i k a k' b _
   by_cases e:k=k'
   · subst e
     rw [if_pos rfl] at h;cases h
     simp [Instr.sameNow,sX]
   · rw [if_neg e] at h;cases h
 · obtain ⟨s,rfl,rfl⟩:=ha
   obtain ⟨s',rfl,rfl⟩:=hb
   cases d<;>simp [mB] at hk
   cases h
   simp only [Instr.sameNow]
   rw [beq_toListBytes,ByteArray.toList_eq,ByteArray.toList_eq,gM]
theorem Ed {k:S} {u:Value} (hk:ba ι k u) (d:TypeDesc) (hkd:mB d k) :
 ∀ (es:List (S×V)) (fp:List MapEntry) (n:Nat) (r:Option (Nat×V)),aT (fA ι) es fp->fg k es n=some r →
   match r with
   | none=>Instr.findNow d u fp n=some none
   | some (j,v)=>∃ v',Instr.findNow d u fp n=some (some (j,v'))/\bS ι v v'/\n<=j/\∃ q e,es[j-n]? = some (q,v)/\fp[j-n]? = some e/\jh k q=some true/\e.val=v':=by
 intro es
 induction es with
 | nil=>intro fp n r h hf;cases h;cases hf;rfl
 | cons p es ih =>
   intro fp n r h hf
   obtain ⟨q,v⟩:=p
   cases h with
   | @cons _ e _ fp hr h =>
     simp only [fg] at hf
     split at hf
     · rename_i hq
       cases hf
       have:=vW hk hr.1 hq d hkd
       exact ⟨e.val,by simp [Instr.findNow,this],hr.2,Nat.le_refl _,q,e,by simp,by simp,hq,rfl⟩
     · rename_i hq
       have:=vW hk hr.1 hq d hkd
       have zR:=ih fp (n+1) r h hf
       cases r with
       | none=>simp [Instr.findNow,this,zR]
       | some jv =>
         obtain ⟨j,v⟩:=jv
         obtain ⟨v',h1,h2,h3,q',e',h4,h5,h6,h7⟩:=zR
         have ej:j-n=(j-(n+1))+1:=by omega
         exact ⟨v',by simp [Instr.findNow,this,h1],h2,by omega,q',e',by rw [ej];simpa using h4,by rw [ej];simpa using h5,h6,h7⟩
     · cases hf
theorem mC {kt:TypeId} {kk:KK} {k:S} {u:Value} (h:xW P kt=some kk) (hk:isKey kk (.v (.s k))=true) (hu:ba ι k u) (emp:Bool) (n:Nat) :
 ∃ d,P.underlying kt=some d/\mB d k/\(Instr.checkKey emp (n+1) kt u).run P w = .ok () w:=by
 unfold xW at h
 split at h
 · rename_i q hq;cases h
   cases k<;>simp [isKey] at hk
   simp only [ba] at hu;subst hu
   exact ⟨_,hq,trivial,by simp [Instr.checkKey,run_bind,aN hq,run_pure]⟩
 · rename_i hq;cases h
   cases k<;>simp [isKey] at hk
   obtain ⟨s,rfl,_⟩:=hu
   exact ⟨_,hq,trivial,by simp [Instr.checkKey,run_bind,aN hq,run_pure]⟩
 · rename_i hq;cases h
   cases k<;>simp [isKey] at hk
   simp only [ba] at hu;subst hu
   exact ⟨_,hq,trivial,by simp [Instr.checkKey,run_bind,aN hq,run_pure]⟩
 · cases h
theorem fh {kt:TypeId} {kk:KK} {k:S} {u:Value} (h:xW P kt=some kk) (hk:isKey kk (.v (.s k))=true) (hu:ba ι k u) {es:List (S×V)} {fp:List MapEntry} {r:Option (Nat×V)}
 (he:aT (fA ι) es fp) (hf:fg k es 0=some r) :
 match r with
 | none=>(Instr.findKey kt u fp).run P w = .ok none w
 | some (j,v)=>∃ v',(Instr.findKey kt u fp).run P w = .ok (some (j,v')) w/\bS ι v v'/\∃ q e,es[j]? = some (q,v)/\fp[j]? = some e/\jh k q=some true/\e.val=v':=by
 obtain ⟨d,hd,hfit,_⟩:=mC (w:=w) h hk hu false 0
 have:=Ed hu d hfit es fp 0 r he hf
 cases r with
 | none=>simp [Instr.findKey,run_bind,aN hd,this,run_pure]
 | some jv =>
   obtain ⟨j,v⟩:=jv
   obtain ⟨v',h1,h2,_,q,e,h3⟩:=this
   exact ⟨v',by simp [Instr.findKey,run_bind,aN hd,h1,run_pure],h2,q,e,by simpa using h3⟩
theorem vZ {t:TypeId} {x:T} {u:Value} {r:T} (ha:dM P t=some false) (hR:Rel ι g w) (hx:aK ι x u) (h:ab x g=some r) :
 ∃ v,(Instr.loadAt t u).run P w = .ok v w/\aK ι r v:=by
 unfold ab at h
 split at h
 · rename_i i o
   obtain ⟨L,hL,rfl⟩:=hx
   split at h
   · rename_i own vs hb
     split at h
     · rename_i y hy
       cases h
       obtain ⟨v,hv,rv⟩:=rk (P:=P) hR hL hb hy
       exact ⟨v,by simp only [Instr.loadAt,Instr.sureAddr,run_bind,run_pure,loadVar,iw ha,Bool.false_eq_true,if_false,hv],rv⟩
     · cases h
   · cases h
 · cases h
theorem we {t:TypeId} {n:Nat} {x:T} {u:Value} {r:T} (ha:dM P t=some true) (hn:cQ P t=some n) (hR:Rel ι g w) (hx:aK ι x u) (h:aH n x g=some r) :
 ∃ v,(Instr.loadAt t u).run P w = .ok v w/\aK ι r v:=by
 unfold aH at h
 split at h
 · rename_i i o
   obtain ⟨L,hL,rfl⟩:=hx
   split at h
   · rename_i own vs hb
     split at h
     · rename_i hle
       cases h
       obtain ⟨cs,hc,rc⟩:=run_loadCells (P:=P) hR hL hb (o:=o) (n:=n) rfl (by simp;omega)
       exact ⟨.agg cs.toArray,by simp only [Instr.loadAt,Instr.sureAddr,run_bind,run_pure,loadVar,iw ha,if_true,cV hn,hc],cs,rfl,rc⟩
     · cases h
   · cases h
 · cases h
theorem fL {i o n:Nat} {c:Cap} {u:Value} (h:ba ι (.sl i o n c) u):∃ L k,ι i=some L/\u = .slice (some ⟨L.b,L.base+o,none⟩) n k/\n<=k:=by
 cases c with
 | known c=>obtain ⟨L,hL,e,hle⟩:=h;exact ⟨L,c,hL,e,hle⟩
 | grown g=>obtain ⟨L,c,hL,e,hle,_⟩:=h;exact ⟨L,c,hL,e,hle⟩
theorem xv {x:T} {u:Value} {r:T} (hR:Rel ι g w) (hx:aK ι x u) (h:bR x g=some r) :
 ∃ v,(Conv.bytesToString u).run P w = .ok v w/\aK ι r v:=by
 unfold bR at h
 split at h
 · simp only [aK,bS,ba] at hx;subst hx;cases h
   exact ⟨.string .empty,rfl,⟨.empty,rfl,rfl⟩⟩
 · obtain ⟨L,a,c,hL,rfl,_⟩:=hx;cases h
   refine ⟨.string .empty,?_,⟨.empty,rfl,rfl⟩⟩
   have:=run_bytesToString (P:=P) w a 0 c [] (by simp [loadCells,loadCellsFrom,run_pure])
   simpa using this
 · rename_i i o n c
   obtain ⟨L,k,hL,rfl,_⟩:=fL hx
   split at h
   · rename_i hz
     subst hz
     cases h
     refine ⟨.string .empty,?_,⟨.empty,rfl,rfl⟩⟩
     have:=run_bytesToString (P:=P) w ⟨L.b,L.base+o,none⟩ 0 k [] (by simp [loadCells,loadCellsFrom,run_pure])
     simpa using this
   split at h
   · rename_i own vs hb
     split at h
     · rename_i hle
       split at h
       · rename_i l hl
         cases h
         obtain ⟨cs,hc,rc⟩:=run_loadCells (P:=P) hR hL hb (o:=o) (n:=n) rfl (by simp;omega)
         obtain ⟨ns,rfl,rfl⟩:=AZ rc hl
         refine ⟨_,run_bytesToString (P:=P) w ⟨L.b,L.base+o,none⟩ n k ns hc,⟨_,rfl,?_⟩⟩
         rw [foldl_push];rfl
       · cases h
     · cases h
   · cases h
 · cases h
theorem Ol {o:Oper} {ev:Operand->T} {ρ:Operand->Value} {r:T} (hR:Rel ι g w) (cW:∀ x∈o.op.operands,aK ι (ev x) (ρ x)) (h:rM P o.op ev g=some r) :
 ∃ v,(execOp ρ o).run P w = .ok (.value v) w/\aK ι r v:=by
 obtain ⟨dst,op,ty,pos,after,guard⟩:=o
 simp only at cW h
 have fin:∀ (s:Sem Value),execOp ρ ⟨dst,op,ty,pos,after,guard⟩=(do pure (Next.value (← s)))->(∃ v,s.run P w = .ok v w/\aK ι r v) →
  ∃ v,(execOp ρ ⟨dst,op,ty,pos,after,guard⟩).run P w = .ok (.value v) w/\aK ι r v:=by
  intro s he ⟨v,h1,h2⟩
  exact ⟨v,by rw [he];exact wL h1,h2⟩
 cases op with
 | load t a =>
   simp only [rM] at h
   split at h
   · rename_i ha
     split at h
     · rename_i n hn;exact fin _ rfl (we ha hn hR (cW a (by simp [Op.operands])) h)
     · cases h
   · rename_i ha;exact fin _ rfl (vZ ha hR (cW a (by simp [Op.operands])) h)
   · cases h
 | convert s d x =>
   have hx:=cW x (by simp [Op.operands])
   simp only [rM] at h
   split at h
   · rename_i e hs hd
     split at h
     · rename_i he
       obtain ⟨v,h1,h2⟩:=xv (P:=P) hR hx h
       refine fin _ rfl ⟨v,?_,h2⟩
       rw [← h1]
       have:∃ a n c,ρ x = .slice a n c:=by
        unfold bR at h
        split at h
        · rename_i hh;rw [hh] at hx;exact ⟨none,0,0,hx⟩
        · rename_i hh;rw [hh] at hx;obtain ⟨L,o,c,hL,e,_⟩:=hx;exact ⟨_,_,_,e⟩
        · rename_i hh;rw [hh] at hx;obtain ⟨L,k,hL,e,_⟩:=fL hx;exact ⟨_,_,_,e⟩
        · cases h
       obtain ⟨a,n,c,e'⟩:=this
       rw [e']
       exact run_convert_bytes_string w s d e a n c hs he hd
     · cases h
   · cases h
 | lookup t x k ok =>
   have hx:=cW x (by simp [Op.operands])
   have hk:=cW k (by simp [Op.operands])
   simp only [rM] at h
   split at h
   · rename_i kt et hu
     split at h
     · rename_i kk z hkk hz
       obtain ⟨zv,yQ,ep⟩:=fK (P:=P) (w:=w) (ι:=ι) hz
       split at h
       · rename_i hik
         refine fin _ rfl ?_
         unfold gA at h
         split at h
         · rename_i kv hm Yf
           rw [hm] at hx;rw [Yf] at hk hik
           simp only [aK,bS,ba] at hx
           obtain ⟨d,hd,_,xP⟩:=mC (P:=P) (w:=w) hkk hik hk true 9999
           have kO:(Instr.checkKey true 10000 kt (ρ k)).run P w = .ok () w:=xP
           have Wr:(Instr.findKey kt (ρ k) []).run P w = .ok none w:=by simp [Instr.findKey,run_bind,aN hd,Instr.findNow,run_pure]
           have hrun:(Instr.lookup t (ρ x) (ρ k) ok).run P w = .ok (if ok then .tuple #[zv,.bool false] else zv) w:=by
            simp only [Instr.lookup,run_bind,aN hu,hx,run_pure,List.isEmpty_toArray,List.isEmpty_nil,kO,Wr,yQ]
           refine ⟨_,hrun,?_⟩
           cases h
           cases ok
           · exact ep
           · exact ⟨[zv,.bool false],rfl,.cons ep (.cons rfl .nil)⟩
         · rename_i i kv hm Yf
           rw [hm] at hx;rw [Yf] at hk hik
           obtain ⟨L,hL,UQ⟩:=hx
           split at h
           · rename_i es hb
             obtain ⟨fp,pH,hh,hall,_⟩:=hR.blk i L _ hL hb
             obtain ⟨d,hd,_,xP⟩:=mC (P:=P) (w:=w) hkk hik hk fp.isEmpty 9999
             have kO:(Instr.checkKey fp.isEmpty 10000 kt (ρ k)).run P w = .ok () w:=xP
             have ct:(getObj L.b).run P w = .ok (.map fp pH) w:=by simp [getObj,Sem.run,hh]
             split at h
             · rename_i j v hf
               obtain ⟨v',h1,h2,_⟩:=fh (P:=P) (w:=w) hkk hik hk hall hf
               have hrun:(Instr.lookup t (ρ x) (ρ k) ok).run P w = .ok (if ok then .tuple #[v',.bool true] else v') w:=by
                simp only [Instr.lookup,run_bind,aN hu,UQ,ct,run_pure,kO,h1]
               refine ⟨_,hrun,?_⟩
               cases h
               cases ok
               · exact h2
               · exact ⟨[v',.bool true],rfl,.cons h2 (.cons rfl .nil)⟩
             · rename_i hf
               have h1:=fh (P:=P) (w:=w) hkk hik hk hall hf
               simp only at h1
               have hrun:(Instr.lookup t (ρ x) (ρ k) ok).run P w = .ok (if ok then .tuple #[zv,.bool false] else zv) w:=by
                simp only [Instr.lookup,run_bind,aN hu,UQ,ct,run_pure,kO,h1,yQ]
               refine ⟨_,hrun,?_⟩
               cases h
               cases ok
               · exact ep
               · exact ⟨[zv,.bool false],rfl,.cons ep (.cons rfl .nil)⟩
             · cases h
           · cases h
         · cases h
       · cases h
     · cases h
   · cases h
 | call c =>
   obtain ⟨callee,args,argTypes⟩:=c
   cases callee with
   | value f=>simp [rM] at h
   | invoke r n=>simp [rM] at h
   | builtin b =>
     cases b<;>first | (simp [rM] at h;done) | skip
     have one:∀ {x:Operand},args.toList=[x]->args = #[x]:=by
      intro x e;rw [← Array.toArray_toList (xs:=args),e]
     have Oi:∀ {x:TypeId},argTypes.toList=[x]->argTypes = #[x]:=by
      intro x e;rw [← Array.toArray_toList (xs:=argTypes),e]
     simp only [rM] at h
     split at h
     · rename_i x t hx' Ce
       have ea:=one hx';have et:=Oi Ce;subst ea et
       have hx:=cW x (by simp [Op.operands,Call.operands])
       split at h
       · rename_i kt et hu
         unfold gz at h
         split at h
         · rename_i he
           cases h
           rw [he] at hx
           simp only [aK,bS,ba] at hx
           refine ⟨.int .i64 0,?_,rfl⟩
           simp [execOp,resolve,invoke,Go.builtin,run_bind,run_pure,Builtin.len_,aN hu,hx,goInt]
         · rename_i i he
           rw [he] at hx
           obtain ⟨L,hL,UQ⟩:=hx
           split at h
           · rename_i es hb
             cases h
             obtain ⟨fp,pH,hh,hall,_⟩:=hR.blk i L _ hL hb
             have ct:(getObj L.b).run P w = .ok (.map fp pH) w:=by simp [getObj,Sem.run,hh]
             have hlen:=aA hall
             simp only [Array.length_toList] at hlen
             refine ⟨.int .i64 fp.size,?_,by rw [← hlen];rfl⟩
             simp [execOp,resolve,invoke,Go.builtin,run_bind,run_pure,Builtin.len_,aN hu,UQ,ct,goInt]
           · cases h
         · cases h
       · cases h
     · cases h
 | _=>simp [rM] at h
end
end Go.Abs
