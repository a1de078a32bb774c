/-
  A library of our own, several texts in one: an abstract store for the model, and runs over it. Nothing here speaks of any program. No conditions.
-/
import Derived.LoopN
import Derived.Scope
import Derived.Orders
import Derived.RowKit3
import Derived.WalkKit
set_option linter.defProp false
namespace Go.Abs
def Fq := @Array.append_empty
def Pk := @Array.empty_append
def wA := @Array.ext_getElem?
def rE := @Array.getD_eq_getD_getElem?
def F0 := @Array.getElem?_append_left
def F1 := @Array.getElem?_eq_getElem
def Pm := @Array.getElem?_eq_none
def iZ := @Array.getElem?_eq_some_iff
def Mt := @Array.getElem?_modify
def F2 := @Array.getElem?_push
def Mh := @Array.getElem?_replicate
def mW := @Array.getElem?_setIfInBounds_ne
def sE := @Array.getElem?_setIfInBounds_self_of_lt
def na := @Array.getElem?_toList
def gf := @Array.length_toList
def D6 := @Array.mem_toList_iff
def Mi := @Array.size_setIfInBounds
def iW := @Array.toArray_toList
def D7 := @Array.toList_inj
def D8 := @Array.toList_modify
def D9 := @Array.toList_push
def Ea := @BitVec.toNat_and
def Eb := @BitVec.toNat_ofInt
def Ec := @BitVec.toNat_or
def Mj := @Bool.and_eq_false_iff
def aM := @Bool.and_eq_true
def oy := @Bool.and_false
def np := @Bool.and_true
def p6 := @Bool.decide_and
def gE := @Bool.eq_false_iff
def gh := @Bool.false_and
def eP := @Bool.false_eq_true
def Ed := @Bool.false_or
def Ee := @Bool.not_eq_true
def ku := @Bool.not_eq_true'
def Ef := @Bool.not_false
def p7 := @Bool.not_true
def Mk := @Bool.or_eq_false_iff
def kv := @Bool.or_eq_true
def dX := @Bool.true_and
def Ml := @ByteArray.data_extract
def oA := @Int.ediv_le_self
def gG := @Int.ediv_nonneg
def Mm := @Int.emod_eq_of_lt
def Mn := @Int.emod_lt_of_pos
def Mo := @Int.emod_nonneg
def zZ := @Int.le_refl
def sF := @Int.mul_ediv_add_emod
def Mp := @Int.mul_le_mul_of_nonneg_left
def z6 := @Int.natCast_nonneg
def Mq := @Int.tmod_eq_emod_of_nonneg
def iY := @Int.toNat_natCast
def ic := @Int.toNat_of_nonneg
def Eg := @List.all_append
def nq := @List.all_cons
def e6 := @List.all_eq_true
def Eh := @List.all_nil
def z7 := @List.any_cons
def Ei := @List.any_eq_false
def z8 := @List.any_eq_true
def bg := @List.append_assoc
def lg := @List.append_nil
def Ej := @List.concat_eq_append
def Mr := @List.cons.injEq
def Aa := @List.cons_append
def Ek := @List.countP_cons_of_neg
def El := @List.countP_cons_of_pos
def sG := @List.dropWhile_cons
def Ab := @List.drop_append
def Em := @List.drop_append_of_le_length
def lY := @List.drop_drop
def cU := @List.drop_eq_getElem_cons
def Ac := @List.drop_eq_nil_iff
def ja := @List.drop_eq_nil_of_le
def Ad := @List.drop_left'
def e7 := @List.drop_length
def Ms := @List.drop_sublist
def Ae := @List.drop_succ_cons
def nr := @List.drop_take
def ek := @List.drop_zero
def cJ := @List.eq_nil_of_length_eq_zero
def En := @List.eq_nil_or_concat
def Mu := @List.eraseIdx_sublist
def nt := @List.ext_getElem?
def Mv := @List.filter_append
def Eo := @List.filter_congr
def Ep := @List.filter_cons
def Er := @List.filter_eq_self
def Mw := @List.flatten_append
def p8 := @List.flatten_cons
def Af := @List.foldl_cons
def gi := @List.getD_cons_succ
def lh := @List.getD_cons_zero
def dq := @List.getD_eq_getElem?_getD
def kx := @List.getElem?_append_left
def ky := @List.getElem?_append_right
def p9 := @List.getElem?_cons_succ
def lZ := @List.getElem?_cons_zero
def nu := @List.getElem?_drop
def aU := @List.getElem?_eq_getElem
def iS := @List.getElem?_eq_none
def bq := @List.getElem?_eq_some_iff
def rr := @List.getElem?_eraseIdx
def cL := @List.getElem?_map
def iT := @List.getElem?_of_mem
def zG := @List.getElem?_range
def uw := @List.getElem?_replicate
def ru := @List.getElem?_set
def rv := @List.getElem?_set_ne
def oW := @List.getElem?_set_self
def mX := @List.getElem?_take
def ux := @List.getElem?_take_of_lt
def oX := @List.getElem?_toArray
def mY := @List.getElem_mem
def mZ := @List.getLast?_eq_getElem?
def uy := @List.getLast?_eq_none_iff
def Fs := @List.getLast?_nil
def uz := @List.head?_eq_getElem?
def aI := @List.length_append
def bB := @List.length_cons
def fK := @List.length_drop
def Ft := @List.length_dropLast
def Fu := @List.length_filter_le
def oY := @List.length_map
def dO := @List.length_nil
def ry := @List.length_pos_iff
def iU := @List.length_set
def iV := @List.length_singleton
def bb := @List.length_take
def uA := @List.mapM_cons
def Fv := @List.mapM_toArray
def lK := @List.map_append
def oZ := @List.map_congr_left
def eE := @List.map_cons
def jy := @List.map_map
def jz := @List.map_nil
def uB := @List.map_set
def rz := @List.map_take
def dP := @List.mem_append
def zH := @List.mem_append_left
def zJ := @List.mem_append_right
def cq := @List.mem_cons
def dC := @List.mem_cons_of_mem
def eF := @List.mem_cons_self
def Fw := @List.mem_filter
def gl := @List.mem_map
def gX := @List.mem_map_of_mem
def bS := @List.mem_of_getElem?
def zK := @List.mem_of_mem_drop
def zL := @List.mem_of_mem_eraseIdx
def nc := @List.mem_of_mem_take
def jA := @List.mem_range
def df := @List.mem_singleton
def Fx := @List.mem_toArray
def uC := @List.modify_succ_cons
def uD := @List.modify_zero_cons
def dD := @List.nil_append
def o2 := @List.nodup_cons
def zM := @List.nodup_iff_pairwise_ne
def Fy := @List.not_mem_nil
def Fz := @List.pairwise_append
def eT := @List.pairwise_cons
def FA := @List.pairwise_map
def FC := @List.range'_succ
def FD := @List.range_succ
def uE := @List.replicate_succ
def FF := @List.set_append_right
def FG := @List.set_cons_succ
def FH := @List.set_cons_zero
def FJ := @List.set_eq_of_length_le
def zN := @List.singleton_append
def FK := @List.size_toArray
def FL := @List.sum_append
def jB := @List.takeWhile_cons
def uF := @List.takeWhile_sublist
def zO := @List.take_add
def cM := @List.take_add_one
def FM := @List.take_append
def rA := @List.take_append_drop
def lL := @List.take_append_of_le_length
def rB := @List.take_left
def rD := @List.take_left'
def dE := @List.take_length
def b8 := @List.take_of_length_le
def uG := @List.take_succ_cons
def gm := @List.take_take
def aH := @Nat.add_assoc
def zP := @Nat.add_comm
def bJ := @Nat.add_mul
def jC := @Nat.add_sub_cancel
def o3 := @Nat.add_sub_cancel_left
def iX := @Nat.add_zero
def FN := @Nat.and_le_left
def zQ := @Nat.and_two_pow_sub_one_eq_mod
def kQ := @Nat.beq_refl
def zR := @Nat.ble_eq
def dw := @Nat.ble_eq_true_of_le
def uH := @Nat.blt_eq
def FO := @Nat.div_le_self
def dY := @Nat.eq_of_beq_eq_true
def zS := @Nat.eq_zero_or_pos
def FP := @Nat.le_mul_of_pos_right
def cm := @Nat.le_of_ble_eq_true
def zT := @Nat.le_of_lt
def nf := @Nat.le_of_not_lt
def au := @Nat.le_refl
def bl := @Nat.le_trans
def FQ := @Nat.lt_of_le_of_lt
def bh := @Nat.lt_of_lt_of_le
def b9 := @Nat.lt_or_ge
def FR := @Nat.lt_succ_self
def uI := @Nat.lt_trichotomy
def gp := @Nat.min_eq_left
def FU := @Nat.min_le_left
def eU := @Nat.mod_eq_of_lt
def di := @Nat.mod_lt
def uJ := @Nat.mul_comm
def zU := @Nat.mul_le_mul_left
def dx := @Nat.mul_le_mul_right
def dZ := @Nat.mul_one
def lM := @Nat.one_mul
def lN := @Nat.or_lt_two_pow
def zV := @Nat.pos_of_ne_zero
def ng := @Nat.pow_le_pow_right
def zW := @Nat.pow_succ
def zX := @Nat.sub_self
def uK := @Nat.sub_zero
def FW := @Nat.two_pow_add_eq_or_of_lt
def a7 := @Nat.zero_add
def cc := @Nat.zero_le
def o4 := @Nat.zero_mul
def bu := @Ne.symm
def o5 := @Option.bind_some
def nh := @Option.getD_some
def FX := @Option.isNone_iff_eq_none
def zY := @Option.isSome_iff_exists
def uL := @Option.isSome_none
def FY := @Option.isSome_some
def o6 := @Option.map_eq_some_iff
def ni := @Option.map_some
def dQ := @Option.some.inj
def jD := @Option.some.injEq
def nj := @Option.toList_some
def jF := @Prod.mk.injEq
def FZ := @UInt8.lt_iff_toNat_lt
def nk := @UInt8.toNat.inj
def bw := @congrArg
def aR := @decide_eq_false
def aK := @decide_eq_true
def bK := @decide_eq_true_eq
def gY := @eq_false
def dm := @eq_true
def cN := @if_false
def ae := @if_neg
def af := @if_pos
def bY := @if_true
def fL := @of_decide_eq_true
end Go.Abs
set_option linter.unusedVariables false
set_option linter.unusedSimpArgs false
set_option maxHeartbeats 4000000
namespace Go.Abs
open Go
inductive Cap where
 |known (c:Nat)
 |grown (e:Nat)
 deriving DecidableEq
inductive S where
 |bool (b:Bool)
 |int (k:IntKind) (n:Int)
 |str (l:List UInt8)
 |ptr (i o:Nat)
 |c9
 |sl (i o len:Nat) (cap:Cap)
 |emp (i e:Nat)
 |av
 |map (i:Nat)
 |pb
 |jX (f:FuncId) (Sc:List (Nat×Nat))
 |wO
 |k5
 |H0 (t i n:Nat)
 |buf (e i n:Nat)
 |any
 deriving DecidableEq
inductive V where
 |s (x:S)
 |agg (l:List S)
 deriving DecidableEq
inductive T where
 |any
 |v (x:V)
 |c6 (l:List V)
 deriving DecidableEq
inductive er where
 |K (own:Bool) (vs:List S)
 |map (es:List (S×V))
 |eb (g:Nat) (vs:List S)
 |dead
 |mark (vs:List S)
 deriving DecidableEq
structure Loc where
 b:Nat
 base:Nat
 size:Nat
 ty:TypeId
abbrev cV:=Nat->Option Loc
inductive bC {α β:Type} (R:α->β->Prop):List α->List β->Prop
 |nil:bC R [] []
 |cons {a b l m}:R a b->bC R l m->bC R (a::l) (b::m)
def cV.le(ι κ:cV):Prop:=∀i L,ι i=some L->κ i=some L
theorem cV.le_refl(ι:cV):ι.le ι:=λ_ _ h=>h
def dv:Value->Bool
 | .agg _ | .tuple _=>false
 |_=>true
def bG(ι:cV):S->Value->Prop
 | .bool b,v=>v = .bool b
 | .int k n,v=>v = .int k n
 | .str l,v=>∃s:ByteArray,v = .string s/\s.data.toList=l
 | .ptr i o,v=>∃L,ι i=some L/\v = .pointer (some ⟨L.b,L.base+o,none⟩)
 | .c9,v=>v = .pointer none
 | .sl i o len (.known c),v=>∃L,ι i=some L/\v = .slice (some ⟨L.b,L.base+o,none⟩) len c/\len<=c
 | .sl i o len (.grown e),v=>∃L c,ι i=some L/\v = .slice (some ⟨L.b,L.base+o,none⟩) len c/\len<=c/\L.base+o+c*e=L.size
 | .emp i e,v=>∃L a c,ι i=some L/\v = .slice (some a) 0 c/\(c=0\/∃o,a=⟨L.b,L.base+o,none⟩/\L.base+o+c*e=L.size)
 | .av,v=>v = .slice none 0 0
 | .map i,v=>∃L,ι i=some L/\v = .map (some L.b)
 | .pb,v=>v = .map none
 | .jX f d,v=>∃cs:List Value,v = .func (.func f) #[] cs.toArray/\bC (λ(p:Nat×Nat) (u:Value)=>∃L,ι p.1=some L/\u = .pointer (some ⟨L.b,L.base+p.2,none⟩)) d cs
 | .wO,v=>v = .nilFunc
 | .k5,v=>v = .nilIface
 | .H0 t i n,v=>∃L,ι i=some L/\L.ty=t/\L.base=0/\L.size=n/\v = .pointer (some ⟨L.b,0,none⟩)
 | .buf e i n,v=>∃L c,ι i=some L/\L.ty=e/\L.base=0/\L.size=c/\n<=c/\c<=9223372036854775807/\v = .slice (some ⟨L.b,0,none⟩) n c
 | .any,v=>dv v=true
def cz(ι:cV):V->Value->Prop
 | .s x,v=>bG ι x v
 | .agg l,v=>∃cs:List Value,v = .agg cs.toArray/\bC (bG ι) l cs
def aT(ι:cV):T->Value->Prop
 | .any,_=>True
 | .v x,v=>cz ι x v
 | .c6 l,v=>∃vs:List Value,v = .tuple vs.toArray/\bC (cz ι) l vs
theorem iL{α β:Type}{R c:α->β->Prop}(h:∀a b,R a b->c a b){l:List α}{m:List β}(k:bC R l m):bC c l m:=by
 induction k with
 |nil=>exact .nil
 |cons a _ d=>exact .cons (h _ _ a) d
theorem aP{α β:Type}{R:α->β->Prop}{l:List α}{m:List β}(k:bC R l m):l.length=m.length:=by
 induction k with
 |nil=>rfl
 |cons _ _ c=>simp[c]
theorem cr{α β:Type}{R:α->β->Prop}{l:List α}{m:List β}(k:bC R l m) :
 ∀(j:Nat) (x:α),l[j]? = some x->∃y,m[j]? = some y/\R x y:=by
 induction k with
 |nil=>intro j x h;simp at h
 |cons a _ c=>
  intro j x h;cases j with
  |zero=>simp at h;subst h;exact⟨_,rfl,a⟩
  |succ j=>simp at h;simpa using c j x h
theorem nR{α β:Type}{R:α->β->Prop}{l:List α}{m:List β}(c:l.length=m.length)
 (h:∀(j:Nat) (x:α) (y:β),l[j]? = some x->m[j]? = some y->R x y):bC R l m:=by
 induction l generalizing m with
 |nil=>cases m with
  |nil=>exact .nil
  |cons _ _=>simp at c
 |cons a l g=>cases m with
  |nil=>simp at c
  |cons b m=>
   refine .cons (h 0 a b rfl rfl) (g (by simpa using c) λj x y d e=>h (j+1) x y (by simpa using d) (by simpa using e))
theorem cd{α β:Type}{R:α->β->Prop}{l c:List α}{m d:List β}(h:bC R l m)(k:bC R c d) :
 bC R (l++c) (m++d):=by
 induction h with
 |nil=>simpa using k
 |cons a _ e=>exact .cons a e
theorem bG.mono{ι κ:cV}(h:ι.le κ){x:S}{v:Value}(k:bG ι x v):bG κ x v:=by
 cases x with
 |ptr i o=>obtain⟨L,e,r⟩:=k;exact⟨L,h _ _ e,r⟩
 |sl i o len cap=>
  cases cap with
  |known c=>obtain⟨L,e,r⟩:=k;exact⟨L,h _ _ e,r⟩
  |grown e=>obtain⟨L,c,e,r⟩:=k;exact⟨L,c,h _ _ e,r⟩
 |emp i e=>obtain⟨L,o,c,e,r⟩:=k;exact⟨L,o,c,h _ _ e,r⟩
 |map i=>obtain⟨L,e,r⟩:=k;exact⟨L,h _ _ e,r⟩
 |jX f d=>
  obtain⟨cs,e,r⟩:=k;exact⟨cs,e,iL (λa b ⟨L,e,r⟩=>⟨L,h _ _ e,r⟩) r⟩
 |bool b=>exact k
 |int _ n=>exact k
 |str l=>exact k
 |c9=>exact k
 |av=>exact k
 |pb=>exact k
 |wO=>exact k
 |k5=>exact k
 |H0 t i n=>obtain⟨L,e,r⟩:=k;exact⟨L,h _ _ e,r⟩
 |buf e i n=>obtain⟨L,c,e,r⟩:=k;exact⟨L,c,h _ _ e,r⟩
 |any=>exact k
theorem cz.mono{ι κ:cV}(h:ι.le κ){x:V}{v:Value}(k:cz ι x v):cz κ x v:=by
 cases x with
 |s x=>exact bG.mono h k
 |agg l=>obtain⟨cs,e,r⟩:=k;exact⟨cs,e,iL (λ_ _=>bG.mono h) r⟩
theorem aT.mono{ι κ:cV}(h:ι.le κ){x:T}{v:Value}(k:aT ι x v):aT κ x v:=by
 cases x with
 |any=>trivial
 |v x=>exact cz.mono h k
 |c6 l=>obtain⟨cs,e,r⟩:=k;exact⟨cs,e,iL (λ_ _=>cz.mono h) r⟩
theorem bG.dv{ι:cV}{x:S}{v:Value}(k:bG ι x v):Abs.dv v=true/\v.cells = #[v]:=by
 cases x with
 |ptr i o=>obtain⟨L,e,r⟩:=k;subst r;exact⟨rfl,rfl⟩
 |sl i o len cap=>
  cases cap with
  |known c=>obtain⟨L,e,r,_⟩:=k;subst r;exact⟨rfl,rfl⟩
  |grown e=>obtain⟨L,c,e,r,_⟩:=k;subst r;exact⟨rfl,rfl⟩
 |emp i e=>obtain⟨L,o,c,e,r,_⟩:=k;subst r;exact⟨rfl,rfl⟩
 |map i=>obtain⟨L,e,r⟩:=k;subst r;exact⟨rfl,rfl⟩
 |jX f d=>obtain⟨cs,e,r⟩:=k;subst e;exact⟨rfl,rfl⟩
 |str l=>obtain⟨s,e,r⟩:=k;subst e;exact⟨rfl,rfl⟩
 |bool b=>subst k;exact⟨rfl,rfl⟩
 |int _ n=>subst k;exact⟨rfl,rfl⟩
 |c9=>subst k;exact⟨rfl,rfl⟩
 |av=>subst k;exact⟨rfl,rfl⟩
 |pb=>subst k;exact⟨rfl,rfl⟩
 |wO=>subst k;exact⟨rfl,rfl⟩
 |k5=>subst k;exact⟨rfl,rfl⟩
 |H0 t i n=>obtain⟨L,e,_,_,_,r⟩:=k;subst r;exact⟨rfl,rfl⟩
 |buf e i n=>obtain⟨L,c,e,_,_,_,_,_,r⟩:=k;subst r;exact⟨rfl,rfl⟩
 |any=>refine⟨k,?_⟩;cases v<;>first | rfl | cases k
def V.cells:V->List S
 | .s x=>[x]
 | .agg l=>l
theorem cz.cells{ι:cV}{x:V}{v:Value}(k:cz ι x v):bC (bG ι) x.cells v.cells.toList:=by
 cases x with
 |s x=>rw[(bG.dv k).2];exact .cons k .nil
 |agg l=>obtain⟨cs,e,r⟩:=k;subst e;simpa[V.cells,Value.cells]using r
inductive Tr where
 |nil
 |node (l:Tr) (v:Option er) (r:Tr)
def Tr.get:Tr->Nat->Option er
 | .nil,_=>none
 | .node l v r,n=>match n with
   | 0=>v
   |m+1=>match Nat.beq (m%2) 0 with
    |true=>l.get (m / 2)
    |false=>r.get (m / 2)
def Tr.put(b:er):Nat->Tr->Nat->Tr
 | 0,t,_=>t
 |f+1,.nil,n=>match n with
  | 0 => .node .nil (some b) .nil
  |m+1=>match Nat.beq (m%2) 0 with
   |true => .node (Tr.put b f .nil (m / 2)) none .nil
   |false => .node .nil none (Tr.put b f .nil (m / 2))
 |f+1,.node l v r,n=>match n with
  | 0 => .node l (some b) r
  |m+1=>match Nat.beq (m%2) 0 with
   |true => .node (Tr.put b f l (m / 2)) v r
   |false => .node l v (Tr.put b f r (m / 2))
theorem eL{n:Nat}:Nat.beq n 0=true↔n=0:=by
 constructor
 ·intro h;exact dY h
 ·rintro rfl;rfl
theorem eX{n:Nat}:Nat.beq n 0=false↔n≠0:=by
 constructor
 ·intro h e;subst e;cases h
 ·intro h;cases e:Nat.beq n 0 with
  |true=>exact(h (eL.1 e)).elim
  |false=>rfl
theorem Tr.EV(b:er):∀(f:Nat) (t:Tr) (n k:Nat),n<f->(Tr.put b f t n).get k=if k=n then some b else t.get k:=by
 intro f;induction f with
 |zero=>intro t n k h;omega
 |succ f q=>
  intro t n k h;cases t with
  |nil=>
   cases n with
   |zero=>
    cases k with
    |zero=>simp[Tr.put,Tr.get]
    |succ k=>simp only[Tr.put,Tr.get];split<;>simp
   |succ n=>
    have j:n / 2<f:=(by omega);cases d:Nat.beq (n%2) 0 with
    |true=>
     have o:=eL.1 d;cases k with
     |zero=>simp[Tr.put,Tr.get,d]
     |succ k=>
      simp only[Tr.put,Tr.get,d];cases g:Nat.beq (k%2) 0 with
      |true=>
       have c:=eL.1 g;simp only[q _ _ _ j];by_cases e:k / 2=n / 2
       ·rw[af e,af (by omega)]
       ·rw[ae e,ae (by omega)];rfl
      |false=>
       have c:=eX.1 g;rw[ae (by omega)]
    |false=>
     have o:=eX.1 d;cases k with
     |zero=>simp[Tr.put,Tr.get,d]
     |succ k=>
      simp only[Tr.put,Tr.get,d];cases g:Nat.beq (k%2) 0 with
      |true=>
       have c:=eL.1 g;rw[ae (by omega)]
      |false=>
       have c:=eX.1 g;simp only[q _ _ _ j];by_cases e:k / 2=n / 2
       ·rw[af e,af (by omega)]
       ·rw[ae e,ae (by omega)];rfl
  |node l v r=>
   cases n with
   |zero=>
    cases k with
    |zero=>simp[Tr.put,Tr.get]
    |succ k=>simp only[Tr.put,Tr.get];split<;>simp
   |succ n=>
    have j:n / 2<f:=(by omega);cases d:Nat.beq (n%2) 0 with
    |true=>
     have o:=eL.1 d;cases k with
     |zero=>simp[Tr.put,Tr.get,d]
     |succ k=>
      simp only[Tr.put,Tr.get,d];cases g:Nat.beq (k%2) 0 with
      |true=>
       have c:=eL.1 g;simp only[q _ _ _ j];by_cases e:k / 2=n / 2
       ·rw[af e,af (by omega)]
       ·rw[ae e,ae (by omega)]
      |false=>
       have c:=eX.1 g;rw[ae (by omega)]
    |false=>
     have o:=eX.1 d;cases k with
     |zero=>simp[Tr.put,Tr.get,d]
     |succ k=>
      simp only[Tr.put,Tr.get,d];cases g:Nat.beq (k%2) 0 with
      |true=>
       have c:=eL.1 g;rw[ae (by omega)]
      |false=>
       have c:=eX.1 g;simp only[q _ _ _ j];by_cases e:k / 2=n / 2
       ·rw[af e,af (by omega)]
       ·rw[ae e,ae (by omega)]
structure St where
 size:Nat
 tr:Tr
def St.get(σ:St)(i:Nat):Option er:=σ.tr.get i
def St.set(σ:St)(i:Nat)(b:er):St:=⟨σ.size,Tr.put b (i+1) σ.tr i⟩
def St.push(σ:St)(b:er):St:=⟨σ.size+1,Tr.put b (σ.size+1) σ.tr σ.size⟩
def St.empty:St:=⟨0,.nil⟩
theorem St.EW(σ:St)(i:Nat)(b:er)(k:Nat):(σ.set i b).get k=if k=i then some b else σ.get k:=Tr.EV b _ _ _ _ (FR _)
theorem St.vt(σ:St)(b:er)(k:Nat):(σ.push b).get k=if k=σ.size then some b else σ.get k:=Tr.EV b _ _ _ _ (FR _)
@[simp] theorem St.size_set (σ:St) (i:Nat) (b:er):(σ.set i b).size=σ.size:=rfl
@[simp] theorem St.size_push (σ:St) (b:er):(σ.push b).size=σ.size+1:=rfl
@[simp] theorem St.get_set_same (σ:St) (i:Nat) (b:er):(σ.set i b).get i=some b:=by rw[St.EW,if_pos rfl]
theorem St.C9(σ:St){i k:Nat}(b:er)(h:k≠i):(σ.set i b).get k=σ.get k:=by rw[St.EW,ae h]
@[simp] theorem St.bf (σ:St) (b:er):(σ.push b).get σ.size=some b:=by rw[St.vt,if_pos rfl]
theorem St.iq(σ:St){k:Nat}(b:er)(h:k≠σ.size):(σ.push b).get k=σ.get k:=by rw[St.vt,ae h]
theorem aZ{α:Type _}(x:α):∃y,y=x:=⟨x,rfl⟩
theorem St.dh{σ:St}{i:Nat}{b:er}:(σ.set i b).get i=some b:=St.get_set_same σ i b
theorem St.ec{σ:St}{b:er}:(σ.push b).get σ.size=some b:=St.bf σ b
theorem St.bO{σ:St}{i k:Nat}{b:er}(h:k≠i):(σ.set i b).get k=σ.get k:=St.C9 σ b h
theorem St.j5{σ:St}{b:er}{k:Nat}(h:k≠σ.size):(σ.push b).get k=σ.get k:=St.iq σ b h
abbrev iz:S := .int .i64 0
def live:Option er->Prop
 |some (.K true _)=>True
 |some (.map _)=>True
 |some (.mark _)=>True
 |_=>False
def held:Option er->Prop
 |some (.K _ _)=>True
 |some (.map _)=>True
 |some (.eb _ _)=>True
 |some (.mark _)=>True
 |_=>False
theorem live.held{b:Option er}(h:live b):held b:=by
 match b,h with
 |some (.K true _),_=>trivial
 |some (.map _),_=>trivial
 |some (.mark _),_=>trivial
def iC(ι:cV)(p:S×V)(e:MapEntry):Prop:=bG ι p.1 e.key/\cz ι p.2 e.val
theorem iC.mono{ι κ:cV}(h:ι.le κ)(p:S×V)(e:MapEntry)(k:iC ι p e):iC κ p e:=⟨k.1.mono h,k.2.mono h⟩
def fg(ι:cV)(L:Loc)(w:World):er->Prop
 | .K own vs=>∃(c:Array Value) (e:TypeId) (d:Nat×Nat),w.heap[L.b]? = some (.cells c e d)/\c.size=L.size/\L.base+vs.length<=L.size ∧
  (∀j x,vs[j]? = some x->∃v,c[L.base+j]? = some v/\bG ι x v)/\(own=true->(d.1=0/\d.2=0/\e=L.ty)/\∀(j:Nat) (v:Value),c[j]? = some v->dv v=true)
 | .map es=>∃(h:Array MapEntry) (k:Nat),w.heap[L.b]? = some (.map h k)/\bC (iC ι) es h.toList ∧
  h.toList.Pairwise (λx y=>x.born<y.born)/\∀e∈h.toList,e.born<k
 | .eb g vs=>L.b=g/\∃(c:Array Value) (e:TypeId) (d:Nat×Nat),w.heap[L.b]? = some (.cells c e d)/\c.size=vs.length/\∀(j:Nat) (x:S),vs[j]? = some x->∃v,c[j]? = some v/\bG ι x v
 | .dead=>True
 | .mark vs=>∃(c:Array Value) (e:TypeId) (d:Nat×Nat),w.heap[L.b]? = some (.cells c e d)/\c.size=L.size/\L.base+vs.length<=L.size ∧
  (∀j x,vs[j]? = some x->∃v,c[L.base+j]? = some v/\bG ι x v)/\∀j,j<c.size->¬(d.1<=j/\j<d.2)
theorem fg.mono{ι κ:cV}(h:ι.le κ){L:Loc}{w:World}{b:er}(k:fg ι L w b):fg κ L w b:=by
 cases b with
 |K own vs=>
  obtain⟨c,e,q,d,n,o,z,B⟩:=k;exact⟨c,e,q,d,n,o,λj x u=>let ⟨v,t,r⟩:=z j x u;⟨v,t,r.mono h⟩,B⟩
 |map es=>
  obtain⟨C,y,d,n,o⟩:=k;exact⟨C,y,d,iL (iC.mono h) n,o⟩
 |eb g vs=>
  obtain⟨D,c,e,q,d,n,o⟩:=k;exact⟨D,c,e,q,d,n,λj x u=>let ⟨v,t,r⟩:=o j x u;⟨v,t,r.mono h⟩⟩
 |dead=>trivial
 |mark vs=>
  obtain⟨c,e,q,d,n,o,z,B⟩:=k;exact⟨c,e,q,d,n,o,λj x u=>let ⟨v,t,r⟩:=z j x u;⟨v,t,r.mono h⟩,B⟩
theorem fg.congr{ι:cV}{L:Loc}{w u:World}{b:er}(h:u.heap[L.b]? = w.heap[L.b]?)(k:fg ι L w b):fg ι L u b:=by
 cases b with
 |K own vs=>obtain⟨c,e,n,d,j⟩:=k;exact⟨c,e,n,h.trans d,j⟩
 |map es=>obtain⟨q,o,d,j⟩:=k;exact⟨q,o,h.trans d,j⟩
 |eb g vs=>obtain⟨r,c,e,n,d,j⟩:=k;exact⟨r,c,e,n,h.trans d,j⟩
 |dead=>trivial
 |mark vs=>obtain⟨c,e,n,d,j⟩:=k;exact⟨c,e,n,h.trans d,j⟩
theorem fg.lt{ι:cV}{L:Loc}{w:World}{b:er}(k:fg ι L w b)(h:held (some b)):L.b<w.heap.size:=by
 cases b with
 |K own vs=>obtain⟨c,e,n,d,j⟩:=k;exact(iZ.1 d).1
 |map es=>obtain⟨q,o,d,j⟩:=k;exact(iZ.1 d).1
 |eb g vs=>obtain⟨_,c,e,n,d,j⟩:=k;exact(iZ.1 d).1
 |dead=>exact h.elim
 |mark vs=>obtain⟨c,e,n,d,j⟩:=k;exact(iZ.1 d).1
structure Rel(ι:cV)(g:Nat->Option er)(w:World):Prop where
 blk:∀i L b,ι i=some L->g i=some b->fg ι L w b
 sep:∀i j L M,ι i=some L->ι j=some M->live (g i)->held (g j)->i≠j->L.b≠M.b
 eb:∀i n vs,g i=some (.eb n vs)->∃L,ι i=some L
def QF:Option er->Option er
 |some (.mark vs)=>some (.K false vs)
 |b=>b
theorem Rel.u7{ι:cV}{g:Nat->Option er}{w:World}(h:Rel ι g w):Rel ι (λi=>QF (g i)) w:=by
 refine⟨λi L b t k => ?_,λi j L M t D r q u => ?_,λi n vs d => ?_⟩
 ·cases d:g i with
  |none=>rw[d]at k;cases k
  |some c=>
   have o:=h.blk i L c t d;rw[d]at k;cases c with
   |mark vs=>
    cases k;obtain⟨c,e,x,y,z,B,C,_⟩:=o;exact⟨c,e,x,y,z,B,C,λh=>by cases h⟩
   |K own vs=>cases k;exact o
   |map es=>cases k;exact o
   |eb n vs=>cases k;exact o
   |dead=>cases k;exact o
 ·refine h.sep i j L M t D ?_ ?_ u
  ·cases d:g i with
   |none=>rw[d]at r;exact r
   |some c=>rw[d]at r;cases c<;>first | trivial | exact r
  ·cases d:g j with
   |none=>rw[d]at q;exact q
   |some c=>rw[d]at q;cases c<;>first | trivial | exact q
 ·cases k:g i with
  |none=>rw[k]at d;cases d
  |some c=>
   rw[k]at d;cases c<;>first | cases d;done | skip
   cases d;exact h.eb i n vs k
def St.wf(σ:St):Prop:=∀i,σ.size<=i->σ.get i=none
theorem St.wf.lt{σ:St}(h:σ.wf){i:Nat}{b:er}(k:σ.get i=some b):i<σ.size:=by
 rcases b9 i σ.size with h' | h'
 ·exact h'
 ·rw[h i h']at k;cases k
theorem St.bo{σ:St}(h:σ.wf)(b:er):(σ.push b).wf:=by
 intro i hi;simp only[St.size_push]at hi;rw[St.j5 (by omega)];exact h i (by omega)
theorem St.wf_set{σ:St}(h:σ.wf){i:Nat}(hi:i<σ.size)(b:er):(σ.set i b).wf:=by
 intro k a;simp only[St.size_set]at a;rw[St.bO (by omega)];exact h k a
theorem St.rl:St.empty.wf:=λ_ _=>rfl
structure Ext(ι:cV)(σ:St)(w:World)(κ:cV)(τ:St)(u:World):Prop where
 size:σ.size<=τ.size
 agree:∀i,(i<σ.size\/τ.size<=i)->κ i=ι i
 own:∀i,i<σ.size->live (τ.get i)->live (σ.get i)
 hold:∀i,i<σ.size->held (τ.get i)->held (σ.get i)
 ghost:∀i,i<σ.size->ι i=none->τ.get i=σ.get i
 fresh:∀i L,σ.size<=i->i<τ.size->κ i=some L->held (τ.get i)->w.heap.size<=L.b\/∃j M,j<σ.size/\ι j=some M/\M.b=L.b/\live (σ.get j)
 os:u.os=w.os
 output:u.output=w.output
 hsize:w.heap.size<=u.heap.size
 keep:∀k,k<w.heap.size->(∀i L,i<σ.size->ι i=some L->live (σ.get i)->L.b≠k)->u.heap[k]? = w.heap[k]?
theorem Ext.refl(ι:cV)(σ:St)(w:World):Ext ι σ w ι σ w:=
 ⟨au _,λ_ _=>rfl,λ_ _ h=>h,λ_ _ h=>h,λ_ _ _=>rfl,λi _ a b=>by omega,rfl,rfl,au _,λ_ _ _=>rfl⟩
theorem Ext.trans{ι κ l:cV}{σ τ υ:St}{w u x:World}(h:Ext ι σ w κ τ u)(k:Ext κ τ u l υ x):Ext ι σ w l υ x where
 size:=bl h.size k.size
 agree:=λi hi=>by
  rcases hi with hi | hi
  ·rw[k.agree i (.inl (bh hi h.size)),h.agree i (.inl hi)]
  ·rw[k.agree i (.inr hi),h.agree i (.inr (bl k.size hi))]
 own:=λi hi hl=>h.own i hi (k.own i (bh hi h.size) hl)
 hold:=λi hi hl=>h.hold i hi (k.hold i (bh hi h.size) hl)
 ghost:=λi hi hn=>by
  rw[k.ghost i (bh hi h.size) (by rw[h.agree i (.inl hi)];exact hn),h.ghost i hi hn]
 fresh:=λi L h1 h2 hL hl=>by
  rcases b9 i τ.size with hi | hi
  ·rw[k.agree i (.inl hi)]at hL;exact h.fresh i L h1 hi hL (k.hold i hi hl)
  ·rcases k.fresh i L hi h2 hL hl with f | ⟨j,M,hj,hM,e,hlj⟩
   ·exact .inl (bl h.hsize f)
   ·rcases b9 j σ.size with hj' | hj'
    ·rw[h.agree j (.inl hj')]at hM;exact .inr ⟨j,M,hj',hM,e,h.own j hj' hlj⟩
    ·have:=h.fresh j M hj' hj hM hlj.held
     rwa [e]at this
 os:=k.os.trans h.os
 output:=k.output.trans h.output
 hsize:=bl h.hsize k.hsize
 keep:=λb hb hn=>by
  rw[k.keep b (bh hb h.hsize),h.keep b hb hn];intro i L hi hL hl e;rcases b9 i σ.size with hi' | hi'
  ·rw[h.agree i (.inl hi')]at hL;exact hn i L hi' hL (h.own i hi' hl) e
  ·rcases h.fresh i L hi' hi hL hl.held with f | ⟨j,M,hj,hM,e',hlj⟩
   ·omega
   ·exact hn j M hj hM hlj (e'.trans e)
def kE(ι:cV)(a b:Nat):Prop:=∀i,a<=i->i<b->ι i=none
theorem Ext.le{ι κ:cV}{σ d:St}{w u:World}(h:Ext ι σ w κ d u)(e:kE ι σ.size d.size):ι.le κ:=by
 intro i L c;rcases b9 i σ.size with hi | hi
 ·rw[h.agree i (.inl hi)];exact c
 ·rcases b9 i d.size with hi' | hi'
  ·rw[e i hi hi']at c;cases c
  ·rw[h.agree i (.inr hi')];exact c
theorem kE.sub{ι:cV}{a b c b':Nat}(h:kE ι a b)(d:a<=c)(e:b'<=b):kE ι c b':=λi k l=>h i (bl d k) (bh l e)
theorem kE.next{ι κ:cV}{σ a:St}{w u:World}{n:Nat}(h:kE ι σ.size n)(e:Ext ι σ w κ a u):kE κ a.size n:=λi k l=>by
 rw[e.agree i (.inr k)];exact h i (bl e.size k) l
theorem Rel.heap{ι:cV}{g:Nat->Option er}{w u:World}(h:Rel ι g w)(e:u.heap=w.heap):Rel ι g u:=
 ⟨λi L b a c=>(h.blk i L b a c).congr (by rw[e]),h.sep,h.eb⟩
theorem Ext.heap{ι:cV}{σ:St}{w u:World}(e:u.heap=w.heap)(a:u.os=w.os)(b:u.output=w.output):Ext ι σ w ι σ u:=
 ⟨au _,λ_ _=>rfl,λ_ _ h=>h,λ_ _ h=>h,λ_ _ _=>rfl,λi _ a b=>by omega,a,b,by rw[e];exact au _,λ_ _ _=>by rw[e]⟩
section loads
variable {P:Program}{ι:cV}{g:Nat->Option er}{w:World}
theorem cell_of{i o:Nat}{L:Loc}{own:Bool}{vs:List S}{x:S}(h:Rel ι g w)(f:ι i=some L)(j:g i=some (.K own vs))(l:vs[o]? = some x) :
 ∃v,w.cell? ⟨L.b,L.base+o,none⟩=some v/\bG ι x v:=by
 obtain⟨c,e,m,a,n,p,d,q⟩:=h.blk i L _ f j;obtain⟨v,k,r⟩:=d o x l;exact⟨v,by simp[World.cell?,a,k],r⟩
theorem oh{i o:Nat}{L:Loc}{own:Bool}{vs:List S}{x:S}(h:Rel ι g w)(a:ι i=some L)(c:g i=some (.K own vs))(e:vs[o]? = some x) :
 ∃v,(load ⟨L.b,L.base+o,none⟩).run P w = .ok v w/\bG ι x v:=by
 obtain⟨v,d,r⟩:=cell_of h a c e;exact⟨v,by simp[load,Sem.run,d],r⟩
theorem run_bind{α β:Type}(m:Sem α)(f:α->Sem β)(w:World):(m >>= f).run P w=match m.run P w with | .ok a u=>(f a).run P u | .halt h u => .halt h u:=by
 show(m.bind f).run P w=_
 induction m generalizing w with
 |pure a=>rfl
 |load md a k d=>
  simp only[Sem.bind,Sem.run]
  (repeat' split)<;>simp_all
 |store md a v k d=>
  cases v<;>simp only[Sem.bind,Sem.run]<;>first | rfl | ((repeat' split)<;>simp_all)
 |new o k d=>simp only[Sem.bind,Sem.run,d]
 |shape r k d=>simp only[Sem.bind,Sem.run,d]
 |freeze a n k d=>simp only[Sem.bind,Sem.run,d]
 |frozen a k d=>simp only[Sem.bind,Sem.run,d]
 |getObj r k d=>
  simp only[Sem.bind,Sem.run]
  (repeat' split)<;>simp_all
 |setObj r o k d=>
  simp only[Sem.bind,Sem.run]
  (repeat' split)<;>simp_all
 |choose q k d=>
  simp only[Sem.bind,Sem.run]
  (repeat' split)<;>simp_all
 |sys c k d=>simp only[Sem.bind,Sem.run,d]
 |program k d=>simp only[Sem.bind,Sem.run,d]
 |mark m k d=>simp only[Sem.bind,Sem.run,d]
 |halt h=>rfl
theorem run_pure{α:Type}(a:α)(w:World):(pure a:Sem α).run P w = .ok a w:=rfl
theorem add_eq(b o n:Nat):(⟨b,o,none⟩:Addr).add n=⟨b,o+n,none⟩:=by
 unfold Addr.add;by_cases h:n=0
 ·simp[h]
 ·simp[h]
theorem zx{i o:Nat}{L:Loc}{own:Bool}{vs:List S}(h:Rel ι g w)(q:ι i=some L)(t:g i=some (.K own vs)) :
 ∀(n k:Nat) (acc:Array Value) (xs:List S),(vs.drop (o+k)).take n=xs->xs.length=n →
  ∃cs:List Value,(loadCellsFrom ⟨L.b,L.base+o,none⟩ k n acc).run P w = .ok (acc++cs.toArray) w/\bC (bG ι) xs cs:=by
 intro n;induction n with
 |zero=>
  intro k acc xs c d;have:xs=[]:=cJ d;subst this;exact⟨[],by simp[loadCellsFrom,run_pure],.nil⟩
 |succ n C=>
  intro k acc xs c d;cases xs with
  |nil=>simp at d
  |cons x xs=>
   have B:vs[o+k]? = some x:=by
    have:=bw (·[0]?) c
    simpa[mX,nu]using this
   have u:(vs.drop (o+(k+1))).take n=xs:=by
    have:=bw List.tail c;rw[List.tail_cons]at this;rw[<-this];cases j:vs.drop (o+k)with
    |nil=>rw[j]at c;simp at c
    |cons y ys=>
     have:vs.drop (o+(k+1))=ys:=by
      rw[<-aH,<-lY,j];rfl
     simp[this]
   obtain⟨v,z,r⟩:=oh (P:=P) h q t B;obtain⟨cs,e,D⟩:=C (k+1) (acc.push v) xs u (by simpa using d);refine⟨v::cs,?_,.cons r D⟩;simp only[loadCellsFrom,run_bind,add_eq,aH,z,e];simp
theorem run_loadCells{i o n:Nat}{L:Loc}{own:Bool}{vs xs:List S}(h:Rel ι g w)(d:ι i=some L)(e:g i=some (.K own vs))
 (f:(vs.drop o).take n=xs) (j:xs.length=n) :
 ∃cs:List Value,(loadCells ⟨L.b,L.base+o,none⟩ n).run P w = .ok cs.toArray w/\bC (bG ι) xs cs:=by
 obtain⟨cs,a,c⟩:=zx (P:=P) (o:=o) h d e n 0 #[] xs (by simpa using f) j;exact⟨cs,by simpa[loadCells]using a,c⟩
end loads
def Qv(P:Program)(ι:cV)(σ:St)(w:World){α:Type}(m:Sem α)(b:St)(R:cV->α->Prop):Prop:=
 ∃κ u a,m.run P w = .ok a u/\Ext ι σ w κ b u/\Rel κ b.get u/\R κ a
def yj(ι:cV)(n:Nat)(L:Loc):cV:=λi=>if i=n then some L else ι i
theorem bX(ι:cV)(n:Nat)(L:Loc):yj ι n L n=some L:=by simp[yj]
theorem gC(ι:cV){n i:Nat}(L:Loc)(h:i≠n):yj ι n L i=ι i:=by simp[yj,h]
theorem y9{ι:cV}{n:Nat}(L:Loc)(h:ι n=none):ι.le (yj ι n L):=by
 intro i M a;by_cases e:i=n
 ·subst e;rw[h]at a;cases a
 ·rw[gC _ _ e];exact a
theorem BX(w:World)(o:Obj)(k:Nat)(h:k<w.heap.size):(w.heap.push o)[k]? = w.heap[k]? := by
 rw[F2,ae (by omega)]
theorem oR(w:World)(o:Obj):(w.heap.push o)[w.heap.size]? = some o:=by simp
theorem mH{σ:St}{b:er}{i:Nat}(h:i≠σ.size):(σ.push b).get i=σ.get i:=St.j5 h
theorem db{ι:cV}{xs:List S}{cs:List Value}(h:bC (bG ι) xs cs):∀v∈cs,Abs.dv v=true:=by
 induction h with
 |nil=>intro v c;cases c
 |cons a _ d=>
  intro v c;cases c with
  |head=>exact(bG.dv a).1
  |tail _ c=>exact d v c
theorem wF{ι:cV}{xs:List S}{cs:List Value}{c:Array Value}(h:bC (bG ι) xs cs)(e:∀v∈c.toList,dv v=true)(j:Nat)(v:Value)(d:(cs.toArray++c)[j]? = some v):dv v=true:=by
 have hv:v∈(cs.toArray++c).toList:=by
  have:=Array.mem_of_getElem? d;exact D6.2 this
 rw[Array.toList_append]at hv;rcases dP.1 hv with hv | hv
 ·exact db h v hv
 ·exact e v hv
theorem lf{c b:Array Value}{cs:List Value}{k:Nat}(d:∀(j:Nat) (v:Value),c[j]? = some v->dv v=true)(f:∀v∈cs,dv v=true)(n:Nat)
 (e:∀j:Nat,b[j]? = if k<=j/\j<n then cs[j-k]? else c[j]?) (j:Nat) (v:Value) (a:b[j]? = some v):dv v=true:=by
 rw[e]at a;split at a
 ·exact f v (bS a)
 ·exact d j v a
theorem uk{ι:cV}{σ:St}{w:World}(h:Rel ι σ.get w)(Q:σ.wf){i:Nat}{L:Loc}{b:er}(q:ι i=some L)(t:σ.get i=some b)(x:live (some b))(o:Obj)(D:er)
 (S:held (some D)) (H:fg ι L { w with heap:=w.heap.setIfInBounds L.b o } D) :
 Ext ι σ w ι (σ.set i D) { w with heap:=w.heap.setIfInBounds L.b o }/\Rel ι (σ.set i D).get { w with heap:=w.heap.setIfInBounds L.b o }:=by
 have hi:=Q.lt t;have hold:∀k,k≠L.b->(w.heap.setIfInBounds L.b o)[k]? = w.heap[k]? := λk B=>mW (λe=>B e.symm)
 constructor
 ·refine⟨au _,λ_ _=>rfl,?_,?_,?_,λk M R J=>by simp at J;omega,rfl,rfl,by simp,?_⟩
  ·intro k B d;by_cases e:k=i
   ·subst e;rw[t];exact x
   ·rwa [St.bO e]at d
  ·intro k B d;by_cases e:k=i
   ·subst e;rw[t];exact x.held
   ·rwa [St.bO e]at d
  ·intro k B C;by_cases e:k=i
   ·subst e;rw[q]at C;cases C
   ·exact St.bO e
  ·intro k B O;refine hold k λe => ?_
   exact O i L hi q (by rw[t];exact x) e.symm
 ·constructor
  ·intro k M c r z;by_cases e:k=i
   ·subst e;rw[q]at r;cases r;rw[St.get_set_same]at z;cases z;exact H
   ·rw[St.bO e]at z;have G:=h.blk k M c r z;cases c with
    |dead=>trivial
    |K own vs=>exact G.congr (hold _ (bu (h.sep i k L M q r (by rw[t];exact x) (by rw[z];trivial) (bu e))))
    |map es=>exact G.congr (hold _ (bu (h.sep i k L M q r (by rw[t];exact x) (by rw[z];trivial) (bu e))))
    |eb g vs=>exact G.congr (hold _ (bu (h.sep i k L M q r (by rw[t];exact x) (by rw[z];trivial) (bu e))))
    |mark vs=>exact G.congr (hold _ (bu (h.sep i k L M q r (by rw[t];exact x) (by rw[z];trivial) (bu e))))
  ·intro k j M N r F d u y;by_cases e:k=i
   ·subst e;rw[q]at r;cases r;have E:j≠k:=bu y;rw[St.bO E]at u;exact h.sep k j L N q F (by rw[t];exact x) u y
   ·rw[St.bO e]at d;by_cases E:j=i
    ·subst E;rw[q]at F;cases F;exact h.sep k j M L r q d (by rw[t];exact x.held) y
    ·rw[St.bO E]at u;exact h.sep k j M N r F d u y
  ·intro k n vs I;by_cases e:k=i
   ·subst e;exact⟨L,q⟩
   ·rw[St.bO e]at I;exact h.eb k n vs I
def aQ(vs:List S)(o:Nat):List S->List S
 | []=>vs
 |x::xs=>aQ (vs.set o x) (o+1) xs
@[simp] theorem fB (vs:List S) (o:Nat) (xs:List S):(aQ vs o xs).length=vs.length:=by
  induction xs generalizing vs o with
  |nil=>rfl
  |cons x xs c=>simp[aQ,c]
theorem mQ(xs:List S):∀(vs:List S) (o j:Nat),o+xs.length<=vs.length →
 (aQ vs o xs)[j]? = if o<=j/\j<o+xs.length then xs[j-o]? else vs[j]? := by
 induction xs with
 |nil=>intro vs o j h;simp only[aQ,dO];rw[ae (by omega)]
 |cons x xs n=>
  intro vs o j h;simp only[bB]at h;simp only[aQ];rw[n _ _ _ (by simp;omega)];by_cases c:o+1<=j/\j<o+1+xs.length
  ·rw[af c,af (by simp;omega)];obtain⟨k,rfl⟩:∃k,j=o+1+k:=⟨j-(o+1),by omega⟩;have e:o+1+k-(o+1)=k:=by omega
   have g:o+1+k-o=k+1:=by omega
   rw[e,g];simp
  ·rw[ae c];by_cases d:j=o
   ·subst d;rw[af (by simp)];simp only[zX,lZ];rw[oW (by omega)]
   ·rw[ae (by simp;omega),rv (bu d)]
theorem cy(vs:List S)(o:Nat)(xs:List S)(h:o+xs.length<=vs.length):aQ vs o xs=vs.take o++xs++vs.drop (o+xs.length):=by
 apply nt;intro j;rw[mQ xs vs o j h];by_cases a:j<o
 ·rw[ae (by omega),bg,kx (by simp;omega)];simp[mX,a]
 ·by_cases b:j<o+xs.length
  ·rw[af (by omega),bg,ky (by simp;omega),kx (by simp;omega)];have:min o vs.length=o:=by omega
   simp[this]
  ·rw[ae (by omega),ky (by simp;omega),nu];simp only[aI,bb];have:min o vs.length=o:=by omega
   rw[this]
   congr 1;omega
theorem iN(P:Program)(g:Nat)(e:TypeId)(y:Nat×Nat):∀(cs:List Value) (d k:Nat) (w:World) (c:Array Value),
 w.heap[g]? = some (.cells c e y)->d+k+cs.length<=c.size->(∀j,j<c.size->¬(y.1<=j/\j<y.2))->(∀v∈cs,Abs.dv v=true) →
 ∃z,(storeCells ⟨g,d,none⟩ cs k).run P w = .ok () { w with heap:=w.heap.setIfInBounds g (.cells z e y) }/\z.size=c.size ∧
  ∀j:Nat,z[j]? = if d+k<=j/\j<d+k+cs.length then cs[j-(d+k)]? else c[j]? := by
 intro cs;induction cs with
 |nil=>
  intro d k w c t _ _ _;refine⟨c,?_,rfl,λj=>by rw[ae (by simp only[dO];omega)]⟩
  have:w.heap.setIfInBounds g (.cells c e y)=w.heap:=by
   apply wA;intro j;by_cases h:g=j
   ·subst h;have n:=(iZ.1 t).1;rw[t,sE n]
   ·rw[mW h]
  rw[this];rfl
 |cons v cs R=>
  intro d k w c t E B q;simp only[bB]at E;have n:=(iZ.1 t).1
  have u:w.cell? ⟨g,d+k,none⟩=some c[d+k]:=by
   simp[World.cell?,t]
  have F:w.frozen? ⟨g,d+k,none⟩=false:=by
   have:=B (d+k) (by omega);simp only[World.frozen?,t]
   simpa using this
  have O:=q v (by simp)
  have o:(store ⟨g,d+k,none⟩ v).run P w = .ok () (w.setCell ⟨g,d+k,none⟩ v):=by
   cases v<;>simp[Abs.dv]at O<;>simp[store,Sem.run,u,F]
  have r:w.setCell ⟨g,d+k,none⟩ v={ w with heap:=w.heap.setIfInBounds g (.cells (c.setIfInBounds (d+k) v) e y) }:=by
   unfold World.setCell
   congr 1
   apply wA;intro j;rw[Mt];by_cases h:g=j
   ·subst h;rw[af rfl,t,sE n];simp
   ·rw[ae h,mW h]
  obtain⟨z,D,G,C⟩:=R d (k+1) (w.setCell ⟨g,d+k,none⟩ v) (c.setIfInBounds (d+k) v)
   (by rw[r];simp[n]) (by simp;omega) (by simpa using B) (λx Q=>q x (by simp[Q]))
  refine⟨z,?_,by simpa using G,?_⟩
  ·simp only[storeCells,run_bind,add_eq,o,D];rw[r];simp
  ·intro j;rw[C j];by_cases H:d+(k+1)<=j/\j<d+(k+1)+cs.length
   ·rw[af H,af (by simp;omega)];obtain⟨m,rfl⟩:∃m,j=d+(k+1)+m:=⟨j-(d+(k+1)),by omega⟩;have J:d+(k+1)+m-(d+(k+1))=m:=(by omega);have N:d+(k+1)+m-(d+k)=m+1:=(by omega);rw[J,N];simp
   ·rw[ae H];by_cases I:j=d+k
    ·subst I;rw[af (by simp)];rw[sE (by omega)];simp
    ·rw[ae (by simp only[bB];omega),mW (bu I)]
theorem fA{P:Program}{ι:cV}{σ:St}{w:World}(h:Rel ι σ.get w)(G:σ.wf){i o:Nat}{L:Loc}{vs xs:List S}{cs:List Value}
 (t:ι i=some L) (u:σ.get i=some (.K true vs)) (n:o+xs.length<=vs.length) (k:bC (bG ι) xs cs) :
 Qv P ι σ w (storeCells ⟨L.b,L.base+o,none⟩ cs) (σ.set i (.K true (aQ vs o xs))) λκ _=>κ=ι:=by
 obtain⟨c,e,l,s,H,A,B,m⟩:=h.blk i L _ t u;have y:=aP k;obtain⟨q,g,E,a⟩:=iN P L.b e l cs (L.base+o) 0 w c s (by omega) (λj d I=>by have:=(m rfl).1;omega) (db k);simp only[iX]at a;have p:=(iZ.1 s).1
 obtain⟨C,D⟩:=uk h G t u trivial (.cells q e l) (.K true (aQ vs o xs)) trivial (by
  refine⟨q,e,l,by simp[p],by omega,by simpa using A,?_,λ_=>⟨by have:=(m rfl).1;omega,lf (m rfl).2 (db k) _ a⟩⟩;intro j x d;rw[mQ xs vs o j n]at d;rw[a (L.base+j)];by_cases f:o<=j/\j<o+xs.length
  ·rw[af f]at d;obtain⟨v,F,r⟩:=cr k _ _ d;rw[af (by omega)];have z:L.base+j-(L.base+o)=j-o:=by omega
   rw[z];exact⟨v,F,r⟩
  ·rw[ae f]at d;rw[ae (by omega)];exact B j x d)
 exact⟨_,_,_,g,C,D,rfl⟩
theorem va{P:Program}{ι:cV}{σ:St}{w:World}(h:Rel ι σ.get w)(G:σ.wf){i o:Nat}{L:Loc}{vs xs:List S}{cs:List Value}
 (s:ι i=some L) (t:σ.get i=some (.mark vs)) (l:o+xs.length<=vs.length) (n:bC (bG ι) xs cs) :
 Qv P ι σ w (storeCells ⟨L.b,L.base+o,none⟩ cs) (σ.set i (.K false (aQ vs o xs))) λκ _=>κ=ι:=by
 obtain⟨c,e,k,q,H,z,A,B⟩:=h.blk i L _ s t;have u:=aP n;obtain⟨p,g,E,a⟩:=iN P L.b e k cs (L.base+o) 0 w c q (by omega) B (db n);simp only[iX]at a;have m:=(iZ.1 q).1
 obtain⟨C,D⟩:=uk h G s t trivial (.cells p e k) (.K false (aQ vs o xs)) trivial (by
  refine⟨p,e,k,by simp[m],by omega,by simpa using z,?_,λh=>by cases h⟩;intro j x f;rw[mQ xs vs o j l]at f;rw[a (L.base+j)];by_cases d:o<=j/\j<o+xs.length
  ·rw[af d]at f;obtain⟨v,F,r⟩:=cr n _ _ f;rw[af (by omega)];have y:L.base+j-(L.base+o)=j-o:=by omega
   rw[y];exact⟨v,F,r⟩
  ·rw[ae d]at f;rw[ae (by omega)];exact A j x f)
 exact⟨_,_,_,g,C,D,rfl⟩
abbrev B(b:Bool):T := .v (.s (.bool b))
abbrev I(k:IntKind)(n:Int):T := .v (.s (.int k n))
abbrev Z(x:S):T := .v (.s x)
abbrev J(n:Int):T:=I .i64 n
abbrev J6(n:Int):T:=I .u64 n
abbrev J8(n:Int):T:=I .u8 n
def Iq:Value->Option S
 | .bool b=>some (.bool b)
 | .int k n=>some (.int k n)
 | .string s=>some (.str s.data.toList)
 | .pointer none=>some .c9
 | .slice none 0 0=>some .av
 | .map none=>some .pb
 | .nilFunc=>some .wO
 | .nilIface=>some .k5
 |_=>none
def uR:List Value->Option (List S)
 | []=>some []
 |v::r=>match Iq v,uR r with
  |some x,some l=>some (x::l)
  |_,_=>none
def CE:Value->Option V
 | .agg cs=>(uR cs.toList).map .agg
 |v=>(Iq v).map .s
theorem AB{ι:cV}{v:Value}{x:S}(h:Iq v=some x):bG ι x v:=by
 unfold Iq at h;split at h<;>first | (cases h;done) | (cases h;first | rfl | exact⟨_,rfl,rfl⟩)
theorem CD{ι:cV}:∀{l:List Value} {m:List S},uR l=some m->bC (bG ι) m l:=by
 intro l;induction l with
 |nil=>intro m h;cases h;exact .nil
 |cons v r e=>
  intro m h;simp only[uR]at h;split at h
  ·rename_i x g c d;cases h;exact .cons (AB c) (e d)
  ·cases h
theorem qd{ι:cV}{v:Value}{x:V}(h:CE v=some x):cz ι x v:=by
 unfold CE at h;split at h
 ·rename_i cs;cases c:uR cs.toList with
  |none=>rw[c]at h;cases h
  |some l=>rw[c]at h;cases h;exact⟨cs.toList,by simp,CD c⟩
 ·cases c:Iq v with
  |none=>rw[c]at h;cases h
  |some l=>rw[c]at h;cases h;exact AB c
def rF(c:List T):Operand->T
 | .tmp t=>c.getD t .any
 | .const v=>match CE v with
   |some x => .v x
   |none => .any
 | .func f => .v (.s (.jX f []))
 | .global _ => .any
def Pn(ι:cV)(b:List T)(a:Array Value):Prop:=∀t,aT ι (b.getD t .any) (a.getD t undef)
theorem EC{ι:cV}{c:List T}{a:Act}(h:Pn ι c a.tmps)(x:Operand):aT ι (rF c x) (a.eval x):=by
 cases x with
 |tmp t=>exact h t
 |const v=>
  simp only[rF,Act.eval];cases d:CE v with
  |none=>trivial
  |some x=>exact qd d
 |func f=>exact⟨[],rfl,.nil⟩
 |global g=>trivial
def dH(P:Program)(t:TypeId):Option Nat:=(P.info? t).map (·.size)
def yB(P:Program)(t:TypeId):Option Nat:=(P.info? t).map (·.bytes)
def zeroOf(P:Program)(t:TypeId):Option V:=match (P.info? t).bind (·.zero)with
 |some v=>CE v
 |none=>none
def fy(P:Program)(t:TypeId):Option Bool:=match P.underlying t with
 |some (.struct _)=>some true
 |some (.array _ _)=>some true
 |some _=>some false
 |none=>none
section tables
variable {P:Program}{w:World}{t:TypeId}
theorem dy{n:Nat}(h:dH P t=some n):(sizeOf t).run P w = .ok n w:=by
 unfold dH at h;cases hi:P.info? t with
 |none=>rw[hi]at h;cases h
 |some i=>rw[hi]at h;cases h;simp[sizeOf,typeInfo,run_bind,run_pure,program,Sem.run,hi]
theorem wj{n:Nat}(h:yB P t=some n):∃i,(typeInfo t).run P w = .ok i w/\i.bytes=n:=by
 unfold yB at h;cases hi:P.info? t with
 |none=>rw[hi]at h;cases h
 |some i=>rw[hi]at h;cases h;exact⟨i,by simp[typeInfo,run_bind,run_pure,program,Sem.run,hi],rfl⟩
theorem iO{ι:cV}{z:V}(h:zeroOf P t=some z):∃v,(zeroValue t).run P w = .ok v w/\cz ι z v:=by
 unfold zeroOf at h;cases hi:P.info? t with
 |none=>rw[hi]at h;cases h
 |some i=>
  rw[hi]at h;simp only[o5]at h;cases c:i.zero with
  |none=>rw[c]at h;cases h
  |some v=>
   rw[c]at h;exact⟨v,by simp[zeroValue,typeInfo,run_bind,run_pure,program,Sem.run,hi,c],qd h⟩
theorem aW{d:TypeDesc}(h:P.underlying t=some d):(underlying t).run P w = .ok d w:=run_underlying h w
theorem iM{b:Bool}(h:fy P t=some b):(isAgg t).run P w = .ok b w:=by
 unfold fy at h;cases c:P.underlying t with
 |none=>rw[c]at h;cases h
 |some d=>rw[c]at h;cases d<;>cases h<;>simp[isAgg,run_bind,aW c,run_pure]
end tables
def pH(op:BinOp)(k:IntKind)(a b:Int):Option T:=
 match op with
 | .add=>some (I k (k.wrap (a+b)))
 | .sub=>some (I k (k.wrap (a-b)))
 | .mul=>some (I k (k.wrap (a*b)))
 | .quo=>if b=0 then none else some (I k (k.wrap (a.tdiv b)))
 | .rem=>if b=0 then none else some (I k (a.tmod b))
 | .and=>some (I k (k.wrap (BitVec.ofInt k.bits a &&& BitVec.ofInt k.bits b).toNat))
 | .or=>some (I k (k.wrap (BitVec.ofInt k.bits a ||| BitVec.ofInt k.bits b).toNat))
 | .xor=>some (I k (k.wrap (BitVec.ofInt k.bits a ^^^ BitVec.ofInt k.bits b).toNat))
 | .andNot=>some (I k (k.wrap (BitVec.ofInt k.bits a &&& ~~~BitVec.ofInt k.bits b).toNat))
 | .eql=>some (B (decide (a=b)))
 | .neq=>some (B (!decide (a=b)))
 | .lss=>some (B (decide (a<b)))
 | .leq=>some (B (decide (a<=b)))
 | .gtr=>some (B (decide (b<a)))
 | .geq=>some (B (decide (b<=a)))
 |_=>none
def pI(op:BinOp)(k:IntKind)(a b:Int):Option T:=
 if b<0 then none else
 match op with
 | .shl=>some (I k (k.wrap (a*2 ^ (min b.toNat k.bits))))
 | .shr=>some (I k (a.fdiv (2 ^ (min b.toNat k.bits))))
 |_=>none
def Az(op:BinOp)(a b:List UInt8):Option T:=
 match op with
 | .add=>if((a.length+b.length:Nat):Int)>IntKind.i64.max then none else some (Z (.str (a++b)))
 | .eql=>some (B (decide (a=b)))
 | .neq=>some (B (!decide (a=b)))
 | .lss=>some (B (Op.bytesLess a b))
 | .leq=>some (B (Op.bytesLess a b||decide (a=b)))
 | .gtr=>some (B (!(Op.bytesLess a b||decide (a=b))))
 | .geq=>some (B (!Op.bytesLess a b))
 |_=>none
def ah(op:BinOp)(x y:T):Option T:=
 match x,y with
 | .v (.s (.int k a)),.v (.s (.int k' b))=>match op with
   | .shl=>pI .shl k a b
   | .shr=>pI .shr k a b
   |op=>if k=k' then pH op k a b else none
 | .v (.s (.str a)),.v (.s (.str b))=>Az op a b
 |_,_=>none
theorem uU(a b:Int):(a == b)=decide (a=b):=by
 by_cases h:a=b<;>simp[h]
theorem jV(a b:List UInt8):(a == b)=decide (a=b):=by
 by_cases h:a=b<;>simp[h]
theorem Io{P:Program}{w:World}{op:BinOp}{t:TypeId}{k:IntKind}{a b:Int}{r:T}(j:op ≠ .shl)(e:op ≠ .shr)(h:pH op k a b=some r) :
 ∃v,(Go.binOp op t (.int k a) (.int k b)).run P w = .ok v w/\∀ι,aT ι r v:=by
 have g:∀(q:Int),(if b=0 then none else some (I k q))=some r->b≠0/\r=I k q:=by
  intro q d;by_cases c:b=0
  ·rw[af c]at d;cases d
  ·rw[ae c]at d;cases d;exact⟨c,rfl⟩
 cases op<;>simp only[pH]at h
 case shl=>exact(j rfl).elim
 case shr=>exact(e rfl).elim
 case quo=>
  obtain⟨c,rfl⟩:=g _ h;exact⟨.int k (k.wrap (a.tdiv b)),by simp only[Go.binOp,ne_eq,not_true_eq_false,cN,Op.intDiv,ae c];rfl,λ_=>rfl⟩
 case rem=>
  obtain⟨c,rfl⟩:=g _ h;exact⟨.int k (a.tmod b),by simp only[Go.binOp,ne_eq,not_true_eq_false,cN,Op.intDiv,ae c];rfl,λ_=>rfl⟩
 all_goals first
  |(cases h;done)
  |(cases h;exact⟨_,by simp only[Go.binOp,ne_eq,not_true_eq_false,cN,Op.intArith,Op.intBits,Op.intCmp];rfl,λ_=>by
   first | rfl | (show Value.bool _=Value.bool _;simp[bne])⟩)
theorem uP{P:Program}{w:World}{op:BinOp}{t:TypeId}{k k':IntKind}{a b:Int}{r:T}(d:op = .shl\/op = .shr)(h:pI op k a b=some r) :
 ∃v,(Go.binOp op t (.int k a) (.int k' b)).run P w = .ok v w/\∀ι,aT ι r v:=by
 unfold pI at h;split at h
 ·cases h
 ·rename_i c;rcases d with rfl | rfl
  ·cases h;refine⟨.int k (k.wrap (a*2 ^ (min b.toNat k.bits))),?_,λ_=>rfl⟩;show(Op.shift .shl k a k' b).run P w=_
   unfold Op.shift;rw[ae c];rfl
  ·cases h;refine⟨.int k (a.fdiv (2 ^ (min b.toNat k.bits))),?_,λ_=>rfl⟩;show(Op.shift .shr k a k' b).run P w=_
   unfold Op.shift;rw[ae c];rfl
theorem size_data(s:ByteArray):s.size=s.data.toList.length:=by rw[gf];rfl
theorem Ip{P:Program}{w:World}{op:BinOp}{t:TypeId}{a b:ByteArray}{r:T}(h:Az op a.data.toList b.data.toList=some r) :
 ∃v,(Go.binOp op t (.string a) (.string b)).run P w = .ok v w/\∀ι,aT ι r v:=by
 cases op<;>simp only[Az]at h <;>
  first
   |(cases h;done)
   |(split at h
     ·cases h
     ·rename_i c;cases h;rw[<-size_data,<-size_data]at c;refine⟨.string (a++b),?_,λ_=>⟨a++b,rfl,by simp⟩⟩;show(Op.stringOp .add a b).run P w=_
      unfold Op.stringOp;show(if _ then _ else _:Sem Value).run P w=_
      rw[ae c];rfl)
   |(cases h;exact⟨_,by simp only[Go.binOp,Op.stringOp];rfl,λ_=>by
    show Value.bool _=Value.bool _
    simp only[ByteArray.toList_eq,jV]⟩)
theorem As{P:Program}{w:World}{ι:cV}{op:BinOp}{t:TypeId}{x y:T}{u v:Value}{r:T}(j:aT ι x u)(l:aT ι y v)(h:ah op x y=some r)(p q:Operand) :
 ∃z,(do eqGuard op t p q u v;Go.binOp op t u v:Sem Value).run P w = .ok z w/\aT ι r z:=by
 unfold ah at h;split at h
 ·rename_i k a k' b;simp only[aT,cz,bG]at j l;subst j l;have f:eqGuard op t p q (.int k a) (.int k' b)=pure ():=eqGuard_at_int ..;rw[f];simp only[run_bind,run_pure];split at h
  ·obtain⟨v,c,d⟩:=uP (P:=P) (w:=w) (t:=t) (k':=k') (.inl rfl) h;exact⟨v,c,d ι⟩
  ·obtain⟨v,c,d⟩:=uP (P:=P) (w:=w) (t:=t) (k':=k') (.inr rfl) h;exact⟨v,c,d ι⟩
  ·rename_i g i;split at h
   ·rename_i e;subst e;obtain⟨v,c,d⟩:=Io (P:=P) (w:=w) (t:=t) (λe=>g (by rw[e])) (λe=>i (by rw[e])) h;exact⟨v,c,d ι⟩
   ·cases h
 ·rename_i a b;obtain⟨m,rfl,rfl⟩:=j;obtain⟨n,rfl,rfl⟩:=l;have f:eqGuard op t p q (.string m) (.string n)=pure ():=eqGuard_at_string ..;rw[f];simp only[run_bind,run_pure];obtain⟨v,c,d⟩:=Ip (P:=P) (w:=w) (t:=t) h;exact⟨v,c,d ι⟩
 ·cases h
inductive LK where
 |b | i | s
 deriving DecidableEq
def za:LK->S->S->Option Bool
 | .b,.bool a,.bool b=>some (decide (a=b))
 | .i,.int k a,.int k' b=>if k=k' then some (decide (a=b))else none
 | .s,.str a,.str b=>some (decide (a=b))
 |_,_,_=>none
def uO(xs ys:List S):List (Nat×LK)->Option Bool
 | []=>some true
 |(o,k)::r=>match xs[o]?,ys[o]? with
  |some x,some y=>match za k x y,uO xs ys r with
   |some a,some b=>some (a&&b)
   |_,_=>none
  |_,_=>none
def uc(P:Program)(rec:TypeId->Nat->Option (List (Nat×LK)))(n:Nat)(c:Nat):List Field->Option (List (Nat×LK))
 | []=>some []
 |f::fs=>if f.name = "_" then uc P rec n c fs else
  match dH P f.type,rec f.type (c+f.offset),uc P rec n c fs with
  |some m,some a,some b=>if f.offset+m<=n/\m≠0 then some (a++b)else none
  |_,_,_=>none
def ub(rec:Nat->Option (List (Nat×LK)))(n:Nat):Nat->Nat->Option (List (Nat×LK))
 | 0,_=>some []
 |m+1,c=>match rec c,ub rec n m (c+n)with
  |some a,some b=>some (a++b)
  |_,_=>none
def leaves(P:Program):Nat->TypeId->Nat->Option (List (Nat×LK))
 | 0,_,_=>none
 |d+1,t,c=>match P.underlying t with
  |some .bool=>some [(c,.b)]
  |some (.int _)=>some [(c,.i)]
  |some .string=>some [(c,.s)]
  |some (.struct fs)=>if P.stoodInHeld t then none else match dH P t with
   |some n=>uc P (leaves P d) n c fs.toList
   |none=>none
  |some (.array m e)=>match dH P e,dH P t with
   |some n,some N=>if m*n<=N/\n≠0 then ub (leaves P d e) n m c else none
   |_,_=>none
  |_=>none
theorem sK{xs ys:List S}{a b:List (Nat×LK)}{r:Bool}(h:uO xs ys (a++b)=some r):∃p q,uO xs ys a=some p/\uO xs ys b=some q/\r=(p&&q):=by
 induction a generalizing r with
 |nil=>exact⟨true,r,rfl,h,rfl⟩
 |cons x a z=>
  obtain⟨o,k⟩:=x;simp only[Aa,uO]at h;split at h
  ·rename_i x y u w;split at h
   ·rename_i c d g j;cases h;obtain⟨p,q,n,t,e⟩:=z j;refine⟨c&&p,q,?_,t,by rw[e,Bool.and_assoc]⟩;simp only[uO,u,w,g,n]
   ·cases h
  ·cases h
section
variable {P:Program}{ι:cV}
def Ev(P:Program)(t:TypeId)(xs:List S)(c:Nat):Option V:=
 match fy P t with
 |some true=>match dH P t with
  |some n=>if c+n<=xs.length then some (.agg ((xs.drop c).take n))else none
  |none=>none
 |some false=>xs[c]?.map .s
 |none=>none
theorem Gd{α β:Type}{R:α->β->Prop}{l:List α}{m:List β}(h:bC R l m)(n:Nat):bC R (l.take n) (m.take n):=by
 induction h generalizing n with
 |nil=>simpa using bC.nil
 |cons a _ c=>cases n with
  |zero=>simpa using bC.nil
  |succ n=>simpa using bC.cons a (c n)
theorem Gc{α β:Type}{R:α->β->Prop}{l:List α}{m:List β}(h:bC R l m)(n:Nat):bC R (l.drop n) (m.drop n):=by
 induction h generalizing n with
 |nil=>simpa using bC.nil
 |cons a h c=>cases n with
  |zero=>simpa using bC.cons a h
  |succ n=>simpa using c n
theorem extract_toArray(cs:List Value)(a b:Nat):cs.toArray.extract a (a+b)=((cs.drop a).take b).toArray:=by
 rw[List.extract_toArray];simp[List.extract]
theorem xe{t:TypeId}{xs:List S}{cs:List Value}{c:Nat}{x:V}(h:bC (bG ι) xs cs)(d:Ev P t xs c=some x)(w:World) :
 ∃v,(part t cs.toArray c).run P w = .ok v w/\cz ι x v:=by
 unfold Ev at d;split at d
 ·rename_i e;split at d
  ·rename_i n j;split at d
   ·cases d;refine⟨.agg (((cs.drop c).take n).toArray),?_,⟨_,rfl,Gd (Gc h c) n⟩⟩;simp only[part,run_bind,iM e,dy j,bY,run_pure,extract_toArray]
   ·cases d
  ·cases d
 ·rename_i e;cases g:xs[c]? with
  |none=>rw[g]at d;cases d
  |some y=>
   rw[g]at d;cases d;obtain⟨v,k,r⟩:=cr h c y g;exact⟨v,by simp[part,run_bind,iM e,k,run_pure],r⟩
 ·cases d
def LK.fits(P:Program)(t:TypeId):LK->Prop
 | .b=>P.underlying t=some .bool
 | .i=>∃k,P.underlying t=some (.int k)
 | .s=>P.underlying t=some .string
theorem De{k:LK}{x y:S}{u v:Value}{r:Bool}{t:TypeId}(c:bG ι x u)(g:bG ι y v)(h:za k x y=some r)
 (j:k.fits P t) (d:Nat) (w:World) :
 (Op.equalIn (d+1) t u v).run P w = .ok r w:=by
 cases k with
 |b=>
  cases x<;>first | (cases h;done) | skip
  cases y<;>first | (cases h;done) | skip
  rename_i a b;simp only[bG]at c g;subst c g;cases h;rw[run_equalIn_bool' w d t _ _ j];cases a<;>cases b<;>rfl
 |i=>
  cases x<;>first | (cases h;done) | skip
  cases y<;>first | (cases h;done) | skip
  rename_i k a k' b;simp only[bG]at c g;subst c g;simp only[za]at h;by_cases e:k=k'
  ·subst e;rw[af rfl]at h;cases h;obtain⟨k',n⟩:=j;rw[run_equalIn_int w d t _ k' _ _ n,uU]
  ·rw[ae e]at h;cases h
 |s=>
  cases x<;>first | (cases h;done) | skip
  cases y<;>first | (cases h;done) | skip
  obtain⟨s,rfl,rfl⟩:=c;obtain⟨o,rfl,rfl⟩:=g;cases h;rw[run_equalIn_string w d t _ _ j,ByteArray.toList_eq,ByteArray.toList_eq,jV]
theorem Il{xs ys:List S}{o:Nat}{k:LK}{r:Bool}(h:uO xs ys [(o,k)]=some r):∃x y,xs[o]? = some x/\ys[o]? = some y/\za k x y=some r:=by
 simp only[uO]at h;split at h
 ·rename_i x y e f;split at h
  ·rename_i a b c d;cases d;cases h;exact⟨x,y,e,f,by simpa using c⟩
  ·cases h
 ·cases h
theorem qT{t:TypeId}{cs:List Value}{c n o m:Nat}(k:dH P t=some m)(j:o+m<=n)(d:(fy P t).isSome)(h:fy P t=some false->m≠0)(w:World) :
 (part t ((cs.drop c).take n).toArray o).run P w=(part t cs.toArray (c+o)).run P w:=by
 cases g:fy P t with
 |none=>rw[g]at d;cases d
 |some b=>
  cases b with
  |true=>
   simp only[part,run_bind,iM g,dy k,bY,run_pure];rw[extract_toArray,extract_toArray]
   congr 3
   rw[nr,gm,lY]
   congr 1
   omega
  |false=>
   have:=h g
   have e:((cs.drop c).take n)[o]? = cs[c+o]? := by
    rw[mX,af (by omega),nu]
   simp only[part,run_bind,iM g,oX,e,eP,cN]
theorem ob{t:TypeId}{n:Nat}(b:fy P t=some true)(c:dH P t=some n)(cs:List Value)(a:Nat)(w:World) :
 (part t cs.toArray a).run P w = .ok (.agg ((cs.drop a).take n).toArray) w:=by
 simp only[part,run_bind,iM b,dy c,bY,run_pure,extract_toArray]
theorem mG{d:Nat}{t:TypeId}{c:Nat}{ls:List (Nat×LK)}(h:leaves P d t c=some ls):(fy P t).isSome:=by
 cases d with
 |zero=>cases h
 |succ d=>
  simp only[leaves]at h;unfold fy;cases e:P.underlying t with
  |none=>rw[e]at h;cases h
  |some x=>cases x<;>rfl
end
section
variable {P:Program}{ι:cV}
def oF(d:Nat)(e:TypeId)(n:Nat)(xs ys:Array Value):Nat->Nat->Sem Bool
 | 0,_=>pure true
 |c+1,i=>do
  let a <-part e xs (i*n)
  let b <-part e ys (i*n)
  let r <-Op.equalIn d e a b
  if(!r)=true then pure false else oF d e n xs ys c (i+1)
theorem run_equalIn_array(d:Nat){t e:TypeId}{len n:Nat}(xs ys:Array Value)(w:World)(h:P.underlying t=some (.array len e))(o:dH P e=some n) :
 (Op.equalIn (d+1) t (.agg xs) (.agg ys)).run P w=(oF d e n xs ys len 0).run P w:=by
 simp only[Op.equalIn,Go.Abs.run_bind,aW h,dy o];rw[Std.Legacy.Range.forIn_eq_forIn_range'];have g:[:len].size=len:=by simp[Std.Legacy.Range.size]
 rw[g,show [:len].start=0 from rfl,show [:len].step=1 from rfl];generalize c:(0:Nat)=st;clear c g h;induction len generalizing st w with
 |zero=>simp[oF,run_pure]
 |succ len q=>
  rw[FC];simp only[List.forIn_cons,oF,Go.Abs.run_bind];generalize(part e xs (st*n)).run P w=u;cases u with
  |halt x w1=>rfl
  |ok a w1=>
   simp only[];generalize(part e ys (st*n)).run P w1=y;cases y with
   |halt x j=>rfl
   |ok b j=>
    simp only[];generalize(Op.equalIn d e a b).run P j=z;cases z with
    |halt x k=>rfl
    |ok r k=>
     cases r
     ·simp[run_pure]
     ·simp only[p7,eP,cN,run_pure];exact q k (st+1)
theorem yG{xs ys:List S}{cs H:List Value}(hx:bC (bG ι) xs cs)(hy:bC (bG ι) ys H)(k:Nat)(w:World) :
 ∀(d:Nat) (t:TypeId) (g:Nat) (ls:List (Nat×LK)) (r:Bool),leaves P d t g=some ls->uO xs ys ls=some r →
  ∃a b,(part t cs.toArray g).run P w = .ok a w/\(part t H.toArray g).run P w = .ok b w/\(Op.equalIn (d+k) t a b).run P w = .ok r w:=by
 intro d;induction d with
 |zero=>intro t g ls r h;cases h
 |succ d ih=>
  intro t g ls r h D
  have leaf:∀(lk:LK),ls=[(g,lk)]->fy P t=some false →
   lk.fits P t →
   ∃a b,(part t cs.toArray g).run P w = .ok a w/\(part t H.toArray g).run P w = .ok b w/\(Op.equalIn (d+1+k) t a b).run P w = .ok r w:=by
   intro lk e E ht;subst e;obtain⟨x,y,O,Q,R⟩:=Il D;obtain⟨u,z,ru⟩:=cr hx g x O;obtain⟨v,hv,rv⟩:=cr hy g y Q;refine⟨u,v,by simp[part,run_bind,iM E,z,run_pure],by simp[part,run_bind,iM E,hv,run_pure],?_⟩;have e:d+1+k=(d+k)+1:=by omega
   rw[e];exact De ru rv R ht _ w
  simp only[leaves]at h;split at h
  ·rename_i z;cases h;exact leaf .b rfl (by simp[fy,z]) z
  ·rename_i k' z;cases h;exact leaf .i rfl (by simp[fy,z]) ⟨k',z⟩
  ·rename_i z;cases h;exact leaf .s rfl (by simp[fy,z]) z
  ·rename_i fs z;split at h
   ·cases h
   ·rename_i Sj;have U:P.stoodInHeld t=false:=by simpa using Sj
    split at h
    ·rename_i n J;have E:fy P t=some true:=(by simp[fy,z]);refine⟨_,_,ob E J cs g w,ob E J H g w,?_⟩;have F:P.fieldsOf t=fs:=(by simp[Program.fieldsOf,z]);have e:d+1+k=(d+k)+1:=(by omega);rw[e,run_equalIn_struct w (d+k) t _ _ (by rw[F];exact z) U,F];generalize fs.toList=Sm at h;clear F e z leaf;induction Sm generalizing ls r with
     |nil=>cases h;cases D;rfl
     |cons f Sm V=>
      simp only[uc]at h;simp only[Op.eqFields];by_cases j:f.name = "_"
      ·rw[af j]at h;rw[ae (by simpa using j)];exact V ls r D h
      ·rw[ae j]at h;rw[af j];split at h
       ·rename_i m a b Sp C G;split at h
        ·rename_i B;cases h;obtain⟨p,q,Y,Z,rfl⟩:=sK D;obtain⟨u,v,O,Q,R⟩:=ih f.type (g+f.offset) a p C Y;simp only[run_bind];rw[qT Sp B.1 (mG C) (λ_=>B.2) w,O];simp only[];rw[qT Sp B.1 (mG C) (λ_=>B.2) w,Q];simp only[R];cases p
         ·simp[run_pure]
         ·simp only[p7,eP,cN,dX];exact V b q Z G
        ·cases h
       ·cases h
    ·cases h
  ·rename_i m e z;split at h
   ·rename_i n N J hN;split at h
    ·rename_i B;have E:fy P t=some true:=(by simp[fy,z]);refine⟨_,_,ob E hN cs g w,ob E hN H g w,?_⟩;have ee:d+1+k=(d+k)+1:=(by omega);rw[ee,run_equalIn_array (d+k) _ _ w z J];obtain⟨B,T⟩:=B
     have Sl:∀(c i o:Nat) (ls:List (Nat×LK)) (r:Bool),o=g+i*n->(i+c)*n<=N->ub (leaves P d e) n c o=some ls->uO xs ys ls=some r →
      (oF (d+k) e n ((cs.drop g).take N).toArray ((H.drop g).take N).toArray c i).run P w = .ok r w:=by
      intro c;induction c with
      |zero=>intro i o ls r _ _ I D;cases I;cases D;rfl
      |succ c Sk=>
       intro i o ls r ho X I D;simp only[ub]at I;split at I
       ·rename_i a b C G;cases I;obtain⟨p,q,Y,Z,rfl⟩:=sK D;subst ho;obtain⟨u,v,O,Q,R⟩:=ih e (g+i*n) a p C Y
        have Sn:i*n+n<=N:=by
         have:(i+1)*n<=(i+(c+1))*n:=dx n (by omega);have e1:(i+1)*n=i*n+n:=(by rw[bJ];omega);omega
        simp only[oF,run_bind];rw[qT J Sn (mG C) (λ_=>T) w,O];simp only[];rw[qT J Sn (mG C) (λ_=>T) w,Q];simp only[R];cases p
        ·simp[run_pure]
        ·simp only[p7,eP,cN,dX];refine Sk (i+1) (g+i*n+n) b q ?_ ?_ G Z
         ·rw[bJ];omega
         ·have:i+1+c=i+(c+1):=(by omega);rw[this];exact X
       ·cases I
     exact Sl m 0 g ls r (by simp) (by simpa using B) h D
    ·cases h
   ·cases h
  ·cases h
end
def yQ:Nat:=12
inductive EK where
 |b | p | l | m | f | i
 |a (n:Nat) (l:List (Nat×LK))
def PE(P:Program)(t:TypeId):Option EK:=
 match P.underlying t with
 |some .bool=>some .b
 |some (.pointer _)=>some .p
 |some (.slice _)=>some .l
 |some (.map _ _)=>some .m
 |some (.func _ _ _)=>some .f
 |some (.interface _)=>some .i
 |some (.struct _)=>if P.eqGuardType P.depth t then none else match leaves P yQ t 0,dH P t with
  |some l,some n=>some (.a n l)
  |_,_=>none
 |some (.array _ _)=>if P.eqGuardType P.depth t then none else match leaves P yQ t 0,dH P t with
  |some l,some n=>some (.a n l)
  |_,_=>none
 |_=>none
def yt:EK->T->T->Option Bool
 | .b,.v (.s (.bool a)),.v (.s (.bool b))=>some (decide (a=b))
 | .p,.v (.s x),.v (.s y)=>match x,y with
   | .c9,.c9=>some true
   | .c9,.ptr _ _=>some false
   | .ptr _ _,.c9=>some false
   |_,_=>none
 | .l,.v (.s x),.v (.s y)=>match x,y with
   | .av,.av=>some true
   | .av,.sl _ _ _ _=>some false
   | .sl _ _ _ _,.av=>some false
   | .av,.emp _ _=>some false
   | .emp _ _,.av=>some false
   |_,_=>none
 | .m,.v (.s x),.v (.s y)=>match x,y with
   | .pb,.pb=>some true
   | .pb,.map _=>some false
   | .map _,.pb=>some false
   |_,_=>none
 | .f,.v (.s x),.v (.s y)=>match x,y with
   | .wO,.wO=>some true
   | .wO,.jX _ _=>some false
   | .jX _ _,.wO=>some false
   |_,_=>none
 | .i,.v (.s .k5),.v (.s .k5)=>some true
 | .a n l,.v (.agg xs),.v (.agg ys)=>if xs.length=n/\ys.length=n then uO xs ys l else none
 |_,_,_=>none
def isConst:Operand->Bool
 | .const _=>true
 |_=>false
section
variable {P:Program}{ι:cV}{w:World}
theorem I1{d:Nat}{t e:TypeId}(c:P.underlying t=some (.pointer e))(a b:Option Addr)(h:a=none\/b=none) :
 (Op.equalIn (d+1) t (.pointer a) (.pointer b)).run P w = .ok (a.isNone&&b.isNone) w:=by
 rcases h with rfl | rfl
 ·simp[Op.equalIn,run_bind,aW c,run_pure]
 ·cases a<;>simp[Op.equalIn,run_bind,aW c,run_pure]
theorem C3{d:Nat}{t e:TypeId}(g:P.underlying t=some (.slice e))(a b:Option Addr)(n c m k:Nat)(h:a=none\/b=none) :
 (Op.equalIn (d+1) t (.slice a n c) (.slice b m k)).run P w = .ok (a.isNone&&b.isNone) w:=by
 rcases h with rfl | rfl
 ·simp[Op.equalIn,run_bind,aW g,run_pure]
 ·cases a<;>simp[Op.equalIn,run_bind,aW g,run_pure]
theorem IZ{d:Nat}{t e g:TypeId}(c:P.underlying t=some (.map e g))(a b:Option Nat)(h:a=none\/b=none) :
 (Op.equalIn (d+1) t (.map a) (.map b)).run P w = .ok (a.isNone&&b.isNone) w:=by
 rcases h with rfl | rfl
 ·simp[Op.equalIn,run_bind,aW c,run_pure]
 ·cases a<;>simp[Op.equalIn,run_bind,aW c,run_pure]
theorem rN{d:Nat}{t:TypeId}{e h:Array TypeId}{c:Bool}(g:P.underlying t=some (.func e h c))(f:Fn)(a b:Array Value) :
 (Op.equalIn (d+1) t .nilFunc .nilFunc).run P w = .ok true w/\(Op.equalIn (d+1) t .nilFunc (.func f a b)).run P w = .ok false w/\(Op.equalIn (d+1) t (.func f a b) .nilFunc).run P w = .ok false w:=
 ⟨by simp[Op.equalIn,run_bind,aW g,run_pure],by simp[Op.equalIn,run_bind,aW g,run_pure],by simp[Op.equalIn,run_bind,aW g,run_pure]⟩
theorem C2{d:Nat}{t:TypeId}{e:Array (String×TypeId)}(a:P.underlying t=some (.interface e)) :
 (Op.equalIn (d+1) t .nilIface .nilIface).run P w = .ok true w:=by simp[Op.equalIn,run_bind,aW a,run_pure]
theorem iG{t:TypeId}{u v:Value}{r:Bool}(h:(Op.equalIn (9999+1) t u v).run P w = .ok r w)(a:Bool)(p q:Operand)
 (d:(eqGuard (if a then .neq else .eql) t p q u v).run P w = .ok () w)
 (c:Go.binOp (if a then .neq else .eql) t u v=(do pure (.bool (a ^^ (<-Op.equal t u v))))) :
 (do eqGuard (if a then .neq else .eql) t p q u v;Go.binOp (if a then .neq else .eql) t u v:Sem Value).run P w = .ok (.bool (a ^^ r)) w:=by
 have b:(Op.equal t u v).run P w = .ok r w:=h;simp only[run_bind,d,c,b,run_pure]
theorem tR{t:TypeId}{x y:T}{u v:Value}{r:Bool}{k:EK}(D:PE P t=some k)(B:aT ι x u)(C:aT ι y v)(h:yt k x y=some r)(g:Bool)(p q:Operand)
 (hc:k = .i->isConst p||isConst q) :
 (do eqGuard (if g then .neq else .eql) t p q u v;Go.binOp (if g then .neq else .eql) t u v:Sem Value).run P w = .ok (.bool (g ^^ r)) w:=by
 have H:∀{x:S} {u:Value},bG ι x u->(∃i o n c,x = .sl i o n c)\/(∃i e,x = .emp i e)->∃a n c,u = .slice (some a) n c:=by
  rintro x u F (⟨i,o,n,c,rfl⟩ | ⟨i,e,rfl⟩)
  ·cases c with
   |known c=>obtain⟨L,_,e,_⟩:=F;exact⟨_,_,_,e⟩
   |grown c=>obtain⟨L,c,_,e,_⟩:=F;exact⟨_,_,_,e⟩
  ·obtain⟨L,o,c,_,e,_⟩:=F;exact⟨_,_,_,e⟩
 unfold PE at D;split at D
 ·rename_i z;cases D;unfold yt at h;split at h<;>first | (rename_i E;cases E;done) | skip
  ·simp only[aT,cz,bG]at B C;subst B C;cases h;refine iG (by rw[run_equalIn_bool' w _ t _ _ z];rename_i a b _;cases a<;>cases b<;>rfl) g p q (by rw[eqGuard_at_bool];rfl) (by cases g<;>simp[Go.binOp])
  ·cases h
 ·rename_i e z;cases D;have N:=λ(a b:Option Addr) h=>I1 (w:=w) (d:=9999) z a b h
  have j:∀a b:Option Addr,a=none\/b=none->u = .pointer a->v = .pointer b->r=(a.isNone&&b.isNone) →
   (do eqGuard (if g then .neq else .eql) t p q u v;Go.binOp (if g then .neq else .eql) t u v:Sem Value).run P w = .ok (.bool (g ^^ r)) w:=by
   intro a b G z O F;subst z O F;exact iG (N a b G) g p q (by rw[eqGuard_at_pointer];rfl) (by cases g<;>simp[Go.binOp])
  unfold yt at h;split at h<;>first | (rename_i E;cases E;done) | skip
  ·split at h
   ·cases h;exact j none none (.inl rfl) B C rfl
   ·obtain⟨L,_,e⟩:=C;cases h;exact j none _ (.inl rfl) B e rfl
   ·obtain⟨L,_,e⟩:=B;cases h;exact j _ none (.inr rfl) e C rfl
   ·cases h
  ·cases h
 ·rename_i e z;cases D;have N:=λ(a b:Option Addr) n c m k h=>C3 (w:=w) (d:=9999) z a b n c m k h
  have j:∀(a b:Option Addr) (n c m d:Nat),a=none\/b=none->u = .slice a n c->v = .slice b m d->r=(a.isNone&&b.isNone) →
   (do eqGuard (if g then .neq else .eql) t p q u v;Go.binOp (if g then .neq else .eql) t u v:Sem Value).run P w = .ok (.bool (g ^^ r)) w:=by
   intro a b n c m d G z O F;subst z O F;exact iG (N a b n c m d G) g p q (by rw[eqGuard_at_slice];rfl) (by cases g<;>simp[Go.binOp])
  unfold yt at h;split at h<;>first | (rename_i E;cases E;done) | skip
  ·split at h
   ·cases h;exact j none none _ _ _ _ (.inl rfl) B C rfl
   ·obtain⟨a,n,c,e⟩:=H C (.inl ⟨_,_,_,_,rfl⟩);cases h;exact j none _ _ _ _ _ (.inl rfl) B e rfl
   ·obtain⟨a,n,c,e⟩:=H B (.inl ⟨_,_,_,_,rfl⟩);cases h;exact j _ none _ _ _ _ (.inr rfl) e C rfl
   ·obtain⟨a,n,c,e⟩:=H (x := .emp _ _) C (.inr ⟨_,_,rfl⟩);cases h;exact j none _ _ _ _ _ (.inl rfl) B e rfl
   ·obtain⟨a,n,c,e⟩:=H (x := .emp _ _) B (.inr ⟨_,_,rfl⟩);cases h;exact j _ none _ _ _ _ (.inr rfl) e C rfl
   ·cases h
  ·cases h
 ·rename_i e Y z;cases D;have N:=λ(a b:Option Nat) h=>IZ (w:=w) (d:=9999) z a b h
  have j:∀a b:Option Nat,a=none\/b=none->u = .map a->v = .map b->r=(a.isNone&&b.isNone) →
   (do eqGuard (if g then .neq else .eql) t p q u v;Go.binOp (if g then .neq else .eql) t u v:Sem Value).run P w = .ok (.bool (g ^^ r)) w:=by
   intro a b G z O F;subst z O F;exact iG (N a b G) g p q (by rw[eqGuard_at_map];rfl) (by cases g<;>simp[Go.binOp])
  unfold yt at h;split at h<;>first | (rename_i E;cases E;done) | skip
  ·split at h
   ·cases h;exact j none none (.inl rfl) B C rfl
   ·obtain⟨L,_,e⟩:=C;cases h;exact j none _ (.inl rfl) B e rfl
   ·obtain⟨L,_,e⟩:=B;cases h;exact j _ none (.inr rfl) e C rfl
   ·cases h
  ·cases h
 ·rename_i e Y Z z;cases D;unfold yt at h;split at h<;>first | (rename_i E;cases E;done) | skip
  ·split at h
   ·simp only[aT,cz,bG]at B C;subst B C;cases h;exact iG (rN z (.func 0) #[] #[]).1 g p q (by rw[eqGuard_at_nilFunc];rfl) (by cases g<;>simp[Go.binOp])
   ·obtain⟨L,e,_⟩:=C;simp only[aT,cz,bG]at B;subst B e;cases h;exact iG (rN z _ _ _).2.1 g p q (by rw[eqGuard_at_nilFunc];rfl) (by cases g<;>simp[Go.binOp])
   ·obtain⟨L,e,_⟩:=B;simp only[aT,cz,bG]at C;subst C e;cases h;exact iG (rN z _ _ _).2.2 g p q (by rw[eqGuard_at_func];rfl) (by cases g<;>simp[Go.binOp])
   ·cases h
  ·cases h
 ·rename_i e z;cases D;unfold yt at h;split at h<;>first | (rename_i E;cases E;done) | skip
  ·simp only[aT,cz,bG]at B C;subst B C;cases h;refine iG (C2 z) g p q ?_ (by cases g<;>simp[Go.binOp]);have:=hc rfl;cases p<;>first | (rw[eqGuard_nil_constL];rfl) | (cases q<;>first | (rw[eqGuard_nil_constR];rfl) | (simp[isConst]at this))
  ·cases h
 all_goals first | (cases D;done) | skip
 all_goals
  rename_i z;split at D
  ·cases D
  ·rename_i hg;have R:P.eqGuardType P.depth t=false:=by simpa using hg
   split at D<;>first | (cases D;done) | skip
   rename_i l n hl hn;cases D;unfold yt at h;split at h<;>first | (rename_i E;cases E;done) | skip
   ·rename_i xs ys he;cases he;split at h
    ·rename_i X;obtain⟨cs,rfl,I⟩:=B;obtain⟨ds,rfl,J⟩:=C;obtain⟨a,b,U,V,F⟩:=yG I J 9988 w yQ t 0 _ _ hl h;have Q:fy P t=some true:=(by simp[fy,z]);have Sj:=aP I;have l2:=aP J;rw[ob Q hn]at U V;cases U;cases V;rw[ek,b8 (by omega),ek,b8 (by omega)]at F;exact iG F g p q (run_eqGuard_agg w _ t p q _ _ R) (by cases g<;>simp[Go.binOp])
    ·cases h
   ·cases h
end
def nv(c a b:T):Option T:=
 match c with
 | .v (.s (.bool true))=>some a
 | .v (.s (.bool false))=>some b
 |_=>none
def ba(x:T):Option T:=
 match x with
 | .v (.s (.ptr _ _))=>some x
 | .v (.s (.jX _ _))=>some x
 |_=>none
def gH(op:UnOp)(x:T):Option T:=
 match op,x with
 | .not,.v (.s (.bool b))=>some (B (!b))
 | .neg,.v (.s (.int k n))=>some (I k (k.wrap (0-n)))
 | .xor,.v (.s (.int k n))=>some (I k (k.wrap (BitVec.ofInt k.bits (if k.signed then -1 else k.max) ^^^ BitVec.ofInt k.bits n).toNat))
 |_,_=>none
def az(k:IntKind)(x:T):Option T:=
 match x with
 | .v (.s (.int _ n))=>some (I k (k.wrap n))
 |_=>none
def Ik(x:T):Option T:=
 match x with
 | .v (.s (.str _))=>some x
 |_=>none
def Ha(P:Program)(t:TypeId):Option (Option Nat):=
 match fy P t with
 |some true=>(dH P t).map some
 |some false=>some none
 |none=>none
def yu(k:Option Nat)(xs:List S)(c:Nat):Option V:=
 match k with
 |some n=>if c+n<=xs.length then some (.agg ((xs.drop c).take n))else none
 |none=>match xs[c]? with
  |some x=>some (.s x)
  |none=>none
theorem xd{P:Program}{t:TypeId}{k:Option Nat}(h:Ha P t=some k)(xs:List S)(off:Nat):Ev P t xs off=yu k xs off:=by
 unfold Ha at h;unfold Ev yu;split at h
 ·rename_i c;cases d:dH P t with
  |none=>rw[d]at h;cases h
  |some n=>rw[d]at h;cases h;simp only[c]
 ·rename_i c;cases h;simp only[c];cases xs[off]? <;> rfl
 ·cases h
def CB(k:Option Nat)(c:Nat)(x:T):Option T:=
 match x with
 | .v (.agg xs)=>match yu k xs c with
   |some y=>some (.v y)
   |none=>none
 |_=>none
def ab(c:Nat)(x:T):Option T:=
 match x with
 | .v (.s (.ptr i o))=>some (Z (.ptr i (o+c)))
 |_=>none
def nH(x:T)(n:Nat):Option Nat:=
 match x with
 | .v (.s (.int _ i))=>if 0<=i/\i<n then some i.toNat else none
 |_=>none
def ar(e:Nat)(x i:T):Option T:=
 match x with
 | .v (.s (.sl b o len _))=>match nH i len with
   |some j=>some (Z (.ptr b (o+j*e)))
   |none=>none
 |_=>none
def bz(n e:Nat)(x i:T):Option T:=
 match x with
 | .v (.s (.ptr b o))=>match nH i n with
   |some j=>some (Z (.ptr b (o+j*e)))
   |none=>none
 |_=>none
def bZ(x i:T):Option T:=
 match x with
 | .v (.s (.str l))=>match nH i l.length with
   |some j=>match l[j]? with
    |some b=>some (I .u8 b.toNat)
    |none=>none
   |none=>none
 |_=>none
def pz(k:Option Nat)(n e:Nat)(x i:T):Option T:=
 match x with
 | .v (.agg xs)=>match nH i n with
   |some j=>match yu k xs (j*e)with
    |some y=>some (.v y)
    |none=>none
   |none=>none
 |_=>none
def ai(x:T)(i:Nat):Option T:=
 match x with
 | .c6 l=>match l[i]? with
   |some y=>some (.v y)
   |none=>none
 |_=>none
def mi(x:T)(n:Nat):Option Nat:=
 match x with
 | .v (.s (.int _ i))=>if 0<=i/\i<=n then some i.toNat else none
 |_=>none
def dr(len cap:Nat)(lo hi mx:Option T):Option (Nat×Nat×Nat):=
 match (match mx with | some v=>mi v cap | none=>some cap)with
 |none=>none
 |some m=>match (match hi,mx with | some v,_=>mi v m | none,none=>some len | none,some _=>none)with
  |none=>none
  |some h=>match (match lo with | some v=>mi v h | none=>some 0)with
   |none=>none
   |some l=>some (l,h,m)
def bn(x:T)(lo hi mx:Option T):Option T:=
 match x,mx with
 | .v (.s (.str s)),none=>match dr s.length s.length lo hi none with
   |some (l,h,_)=>some (Z (.str ((s.take h).drop l)))
   |none=>none
 |_,_=>none
def aB(e:Nat)(x:T)(lo hi mx:Option T):Option T:=
 match x with
 | .v (.s (.sl b o len (.known c)))=>match dr len c lo hi mx with
   |some (l,h,m)=>some (Z (.sl b (if m=l then o else o+l*e) (h-l) (.known (m-l))))
   |none=>none
 | .v (.s (.sl b o len (.grown g)))=>if g=e then
  match dr len len lo hi mx with
  |some (l,h,m)=>match mx with
   |some _=>some (Z (.sl b (if m=l then o else o+l*e) (h-l) (.known (m-l))))
   |none=>if l<len then some (Z (.sl b (o+l*e) (h-l) (.grown e)))else some (Z (.emp b e))
  |none=>none
  else none
 | .v (.s (.emp b g))=>if g=e then
  match dr 0 0 lo hi mx,mx with
  |some _,none=>some (Z (.emp b e))
  |_,_=>none
  else none
 | .v (.s .av)=>match dr 0 0 lo hi mx with
   |some _=>some (Z .av)
   |none=>none
 |_=>none
def rJ(n e:Nat)(x:T)(lo hi mx:Option T):Option T:=
 match x with
 | .v (.s (.ptr b o))=>match dr n n lo hi mx with
   |some (l,h,m)=>some (Z (.sl b (if m=l then o else o+l*e) (h-l) (.known (m-l))))
   |none=>none
 |_=>none
def aV(x:T):Option T:=
 match x with
 | .v (.s (.str l))=>some (I .i64 l.length)
 |_=>none
def aG(x:T):Option T:=
 match x with
 | .v (.s (.sl _ _ n _))=>some (I .i64 n)
 | .v (.s (.emp _ _))=>some (I .i64 0)
 | .v (.s .av)=>some (I .i64 0)
 |_=>none
def Av(x:T):Option T:=
 match x with
 | .v (.s (.sl _ _ _ (.known c)))=>some (I .i64 c)
 | .v (.s .av)=>some (I .i64 0)
 |_=>none
def l3(x y:T):Option T:=
 match x,y with
 | .v (.s (.int k a)),.v (.s (.int _ b))=>some (I k (if b<a then b else a))
 |_,_=>none
def xc(x y:T):Option T:=
 match x,y with
 | .v (.s (.int k a)),.v (.s (.int _ b))=>some (I k (if a<b then b else a))
 |_,_=>none
def kz(f:T->T->Option T):T->List T->Option T
 |x,[]=>some x
 |x,y::r=>match f x y with
  |some z=>kz f z r
  |none=>none
def aA(d:List S):List (Nat×Nat×T)->Option (List S)
 | []=>some d
 |(c,n,.v x)::r=>if x.cells.length=n/\c+n<=d.length then aA (aQ d c x.cells) r else none
 |_::_=>none
def tJ(f:FuncId):List T->List (Nat×Nat)->Option T
 | [],acc=>some (Z (.jX f acc.reverse))
 | .v (.s (.ptr i o))::r,acc=>tJ f r ((i,o)::acc)
 |_::_,_=>none
section
variable {P:Program}{ι:cV}{w:World}
theorem Ga{c a b:T}{u v z:Value}{r:T}(d:aT ι c u)(e:aT ι a v)(f:aT ι b z)(h:nv c a b=some r) :
 ∃x,(do pure (if <-asBool u then v else z):Sem Value).run P w = .ok x w/\aT ι r x:=by
 unfold nv at h;split at h
 ·cases d;cases h;exact⟨v,rfl,e⟩
 ·cases d;cases h;exact⟨z,rfl,f⟩
 ·cases h
theorem ME{op:UnOp}{x:T}{u:Value}{r:T}(a:aT ι x u)(h:gH op x=some r):∃v,(Op.unary op u).run P w = .ok v w/\aT ι r v:=by
 unfold gH at h;split at h
 ·cases a;cases h;exact⟨_,rfl,rfl⟩
 ·cases a;cases h;exact⟨_,rfl,rfl⟩
 ·cases a;cases h;exact⟨_,rfl,rfl⟩
 ·cases h
theorem tS{x:T}{n j:Nat}{u:Value}(b:aT ι x u)(h:nH x n=some j):∃k i,u = .int k i/\0<=i/\i<n/\i.toNat=j:=by
 unfold nH at h;split at h
 ·rename_i k i;cases b;split at h
  ·rename_i a;cases h;exact⟨k,i,rfl,a.1,a.2,rfl⟩
  ·cases h
 ·cases h
theorem l2{x:T}{n m j:Nat}{u:Value}(b:aT ι x u)(h:mi x n=some j)(c:n<=m)(code:BoundsCode):(Instr.sliceBound u m code).run P w = .ok j w/\j<=n:=by
 unfold mi at h;split at h
 ·rename_i k i;cases b;split at h
  ·rename_i a;cases h;have:0<=i/\i<=(m:Int):=⟨a.1,by omega⟩;exact⟨by simp[Instr.sliceBound,asIntOf,run_bind,run_pure,this],by omega⟩
  ·cases h
 ·cases h
def o7(ι:cV)(x:Option T)(u:Option Value):Prop:=
 match x,u with
 |some x,some u=>aT ι x u
 |none,none=>True
 |_,_=>False
theorem ie{len lim cap:Nat}{lo hi mx:Option T}{c d mx':Option Value}{l h m:Nat}(e:o7 ι lo c)(n:o7 ι hi d)(u:o7 ι mx mx')
 (g:dr len lim lo hi mx=some (l,h,m)) (j:lim<=cap) (y:len<=lim) (k:Bool) :
 (Instr.sliceBounds k len cap c d mx').run P w = .ok (l,h,if mx.isSome then m else cap) w/\l<=h/\h<=m/\m<=lim/\(mx=none->m=lim):=by
 unfold dr at g;split at g
 ·cases g
 ·rename_i F z;split at g
  ·cases g
  ·rename_i D t;split at g
   ·cases g
   ·rename_i E o;cases g
    match mx,mx',u with
    |none,none,_=>
     cases z
     match hi,d,n with
     |none,none,_=>
      cases t
      match lo,c,e with
      |none,none,_=>cases o;simp[Instr.sliceBounds,run_bind,run_pure];omega
      |some lo,some c,e=>
       obtain⟨r,B⟩:=l2 (P:=P) (w:=w) e o (au _) (if false=true then .slice3C else .sliceB);simp only[eP,cN]at r;simp[Instr.sliceBounds,run_bind,run_pure,r];omega
     |some hi,some d,n=>
      obtain⟨r,B⟩:=l2 (P:=P) (w:=w) n t j (if k then .sliceAcap else .sliceAlen)
      match lo,c,e with
      |none,none,_=>cases o;simp[Instr.sliceBounds,run_bind,run_pure,r];omega
      |some lo,some c,e=>
       obtain⟨q,x⟩:=l2 (P:=P) (w:=w) e o (au _) (if false=true then .slice3C else .sliceB);simp only[eP,cN]at q;simp[Instr.sliceBounds,run_bind,run_pure,r,q];omega
    |some mx,some mx',u=>
     obtain⟨rm,C⟩:=l2 (P:=P) (w:=w) u z j (if k then .slice3Acap else .slice3Alen)
     match hi,d,n with
     |none,none,_=>cases t
     |some hi,some d,n=>
      obtain⟨r,B⟩:=l2 (P:=P) (w:=w) n t (au _) .slice3B
      match lo,c,e with
      |none,none,_=>cases o;simp[Instr.sliceBounds,run_bind,run_pure,rm,r];omega
      |some lo,some c,e=>
       obtain⟨q,x⟩:=l2 (P:=P) (w:=w) e o (au _) (if true=true then .slice3C else .sliceB);simp only[bY]at q;simp[Instr.sliceBounds,run_bind,run_pure,rm,r,q];omega
end
def uh(P:Program)(fs:Array Field)(ev:Operand->T):List (Nat×Operand)->Option (List (Nat×Nat×T))
 | []=>some []
 |(i,x)::r=>match fs[i]? with
  |some f=>match dH P f.type,uh P fs ev r with
   |some n,some l=>some ((f.offset,n,ev x)::l)
   |_,_=>none
  |none=>none
def oQ(n:Nat)(ev:Operand->T):List (Nat×Operand)->List (Nat×Nat×T)
 | []=>[]
 |(i,x)::r=>(i*n,n,ev x)::oQ n ev r
def aO:Option (List S)->Option T
 |some l=>some (.v (.agg l))
 |none=>none
def Kh(P:Program)(fs:Array Field):Bool:=fs.all λf=>(dH P f.type).isSome
def qP(P:Program)(op:Op)(ev:Operand->T):Option T:=
 match op with
 | .move x=>some (ev x)
 | .assign x=>some (ev x)
 | .pick c a b=>nv (ev c) (ev a) (ev b)
 | .build t parts=>match zeroOf P t,P.underlying t with
   |some z,some (.struct fs)=>if Kh P fs then match uh P fs ev parts.toList with
    |some l=>aO (aA z.cells l)
    |none=>none
    else none
   |some z,some (.array _ e)=>match dH P e with
    |some n=>aO (aA z.cells (oQ n ev parts.toList))
    |none=>none
   |_,_=>none
 | .nilCheck x=>ba (ev x)
 | .binOp op t x y _=>match P.underlying t with
   |some (.int _)=>ah op (ev x) (ev y)
   |some .string=>ah op (ev x) (ev y)
   |_=>match op,PE P t with
    | .eql,some .i=>if isConst x||isConst y then(match yt .i (ev x) (ev y)with | some b=>some (B b) | none=>none)else none
    | .neq,some .i=>if isConst x||isConst y then(match yt .i (ev x) (ev y)with | some b=>some (B (!b)) | none=>none)else none
    | .eql,some k=>match yt k (ev x) (ev y)with | some b=>some (B b) | none=>none
    | .neq,some k=>match yt k (ev x) (ev y)with | some b=>some (B (!b)) | none=>none
    |_,_=>none
 | .unOp op _ x=>gH op (ev x)
 | .convert s d x=>match P.underlying s,P.underlying d with
   |some _,some (.int k)=>az k (ev x)
   |some .string,some .string=>Ik (ev x)
   |_,_=>none
 | .makeFunc (.func f) first g=>if first.size=0 then tJ f (g.toList.map ev) []else none
 | .slice t x lo hi mx=>match P.underlying t with
   |some .string=>bn (ev x) (lo.map ev) (hi.map ev) (mx.map ev)
   |some (.slice e)=>match dH P e with
    |some n=>aB n (ev x) (lo.map ev) (hi.map ev) (mx.map ev)
    |none=>none
   |some (.array k e)=>match dH P e with
    |some n=>rJ k n (ev x) (lo.map ev) (hi.map ev) (mx.map ev)
    |none=>none
   |_=>none
 | .fieldAddr s x f=>match P.underlying s with
   |some (.struct fs)=>match fs[f]? with
    |some fd=>match dH P fd.type with
     |some (_+1)=>ab fd.offset (ev x)
     |_=>none
    |none=>none
   |_=>none
 | .field t x f=>match P.underlying t with
   |some (.struct fs)=>match fs[f]? with
    |some fd=>match Ha P fd.type with
     |some k=>CB k fd.offset (ev x)
     |none=>none
    |none=>none
   |_=>none
 | .indexAddr t x i=>match P.underlying t with
   |some (.slice e)=>match dH P e with
    |some n=>ar n (ev x) (ev i)
    |none=>none
   |some (.array k e)=>match dH P e with
    |some n=>bz k n (ev x) (ev i)
    |none=>none
   |_=>none
 | .index t x i=>match P.underlying t with
   |some .string=>bZ (ev x) (ev i)
   |some (.array k e)=>match dH P e,Ha P e with
    |some n,some h=>pz h k n (ev x) (ev i)
    |_,_=>none
   |_=>none
 | .extract x i=>ai (ev x) i
 | .call { callee := .builtin .len,args,argTypes }=>match args.toList,argTypes.toList with
   | [x],[t]=>match P.underlying t with
     |some .string=>aV (ev x)
     |some (.slice _)=>aG (ev x)
     |some (.array n _)=>some (I .i64 n)
     |_=>none
   |_,_=>none
 | .call { callee := .builtin .cap,args,argTypes }=>match args.toList,argTypes.toList with
   | [x],[t]=>match P.underlying t with
     |some (.slice _)=>Av (ev x)
     |_=>none
   |_,_=>none
 | .call { callee := .builtin .min,args,.. }=>match args.toList.map ev with
   |x::r=>kz l3 x r
   | []=>none
 | .call { callee := .builtin .max,args,.. }=>match args.toList.map ev with
   |x::r=>kz xc x r
   | []=>none
 |_=>none
section
variable {P:Program}{ι:cV}{w:World}
theorem yb{s:Sem Value}{x:Value}(h:s.run P w = .ok x w):(do pure (Next.value (<-s)):Sem Next).run P w = .ok (.value x) w:=by
 simp only[run_bind,h,run_pure]
theorem p0(cs:List Value)(i:Nat)(v:Value):cs.toArray.setIfInBounds i v=(cs.set i v).toArray:=by simp
theorem GH(d:Nat):∀(xs:List Value) (k:Nat) (cs:List Value),∃ds,(xs.zipIdx k).foldl (λ(a:Array Value) (p:Value×Nat)=>a.setIfInBounds (d+p.2) p.1) cs.toArray=ds.toArray ∧
 ∀{ys q:List S},bC (bG ι) ys xs->bC (bG ι) q cs->bC (bG ι) (aQ q (d+k) ys) ds:=by
 intro xs;induction xs with
 |nil=>
  intro k cs;refine⟨cs,rfl,?_⟩;intro ys q h n;cases h;exact n
 |cons x xs B=>
  intro k cs;obtain⟨ds,u,w⟩:=B (k+1) (cs.set (d+k) x);refine⟨ds,?_,?_⟩
  ·rw[List.zipIdx_cons,Af,p0];exact u
  ·intro ys q h n;cases h with
   |cons a h=>
    simp only[aQ];refine w h ?_;refine nR (by simp[aP n]) ?_;intro j y z c g;by_cases e:d+k=j
    ·subst e;by_cases t:d+k<q.length
     ·rw[oW t]at c;rw[oW (by rw[<-aP n];exact t)]at g;cases c;cases g;exact a
     ·rw[iS (by simp;omega)]at c;cases c
    ·rw[rv e]at c g;obtain⟨C,o,r⟩:=cr n j y c;rw[g]at o;cases o;exact r
theorem wI(b:Nat)(v:Value)(cs:List Value):∃ds,(v.cells.zipIdx.foldl (λ(a:Array Value) (p:Value×Nat)=>a.setIfInBounds (b+p.2) p.1) cs.toArray)=ds.toArray ∧
 ∀{ys c:List S},bC (bG ι) ys v.cells.toList->bC (bG ι) c cs->bC (bG ι) (aQ c b ys) ds:=by
 obtain⟨ds,d,e⟩:=GH (ι:=ι) b v.cells.toList 0 cs;refine⟨ds,?_,?_⟩
 ·rw[<-d,<-Array.foldl_toList]
  congr 1
  simp
 ·intro ys c f g;have:=e f g
  simpa using this
theorem rI{place:Nat->Option (Nat×Nat)}:∀(parts:List (Nat×Value)) (l:List (Nat×Nat×T)) (g:List S) (cs:List Value) (ys:List S),
 bC (λ(a:Nat×Nat×T) (b:Nat×Value)=>place b.1=some (a.1,a.2.1)/\aT ι a.2.2 b.2) l parts->bC (bG ι) g cs->aA g l=some ys →
 ∃ds:List Value,Instr.fill place cs.toArray parts=some ds.toArray/\bC (bG ι) ys ds:=by
 intro parts;induction parts with
 |nil=>
  intro l g cs ys d e h;cases d;cases h;exact⟨cs,rfl,e⟩
 |cons p parts C=>
  intro l g cs ys d e h;cases d with
  | @cons a _ l _ y d=>
    obtain⟨j,n,t⟩:=a;obtain⟨i,v⟩:=p;obtain⟨o,z⟩:=y;cases t with
    |any=>cases h
    |c6 _=>cases h
    |v x=>
     simp only[aA]at h;split at h
     ·rename_i D;have c:=cz.cells z;have k:v.cells.size=n:=(by have:=aP c;simp at this;omega);obtain⟨ds,q,r⟩:=wI (ι:=ι) j v cs;obtain⟨es,u,w⟩:=C l _ ds ys d (r c e) h;refine⟨es,?_,w⟩;have B:=aP e;simp only at o;simp only[Instr.fill,o];rw[ae (by simp;omega)];rw[<-u,<-q]
     ·cases h
theorem BF(fs:List Field)(h:∀f∈fs,∃n,dH P f.type=some n):∃l:List (Nat×Nat),(fs.mapM λf=>(do pure (f.offset,<-sizeOf f.type):Sem (Nat×Nat))).run P w = .ok l w ∧
 ∀i:Nat,l[i]? = (fs[i]?).bind λf=>(dH P f.type).map λn=>(f.offset,n):=by
 induction fs with
 |nil=>exact⟨[],by simp[run_pure],by simp⟩
 |cons f fs k=>
  obtain⟨l,d,e⟩:=k λg j=>h g (by simp[j])
  obtain⟨n,c⟩:=h f (by simp);refine⟨(f.offset,n)::l,?_,?_⟩
  ·simp only[uA,run_bind,dy c,run_pure,d]
  ·intro i;cases i with
   |zero=>simp[c]
   |succ i=>simpa using e i
end
section
variable {P:Program}{ι:cV}{w:World}
theorem zr{i o:Nat}{L:Loc}{b a:Nat}(h:ι i=some L)(c:b=L.b)(d:a=L.base+o):aT ι (Z (.ptr i o)) (.pointer (some ⟨b,a,none⟩)):=by
 subst c d;exact⟨L,h,rfl⟩
theorem Gl{t:TypeId}{parts:Array (Nat×Operand)}{ev:Operand->T}{ρ:Operand->Value}{r:T}(c:∀p∈parts,aT ι (ev p.2) (ρ p.2))
 (h:qP P (.build t parts) ev=some r):∃v,(Instr.build t (parts.map λp=>(p.1,ρ p.2))).run P w = .ok v w/\aT ι r v:=by
 simp only[qP]at h;split at h
 ·rename_i z fs R Q;split at h
  ·rename_i H;split at h
   ·rename_i l V;obtain⟨U,B,d⟩:=iO (P:=P) (w:=w) (ι:=ι) R;have y:=cz.cells d
    obtain⟨pl,N,O⟩:=BF (P:=P) (w:=w) fs.toList (λf o=>by
     have:=(Array.all_eq_true_iff_forall_mem.1 H) f (by simpa using o);exact zY.1 this)
    cases o:aA z.cells l with
    |none=>rw[o]at h;cases h
    |some ys=>
     rw[o]at h;cases h
     have g:∀(pp:List (Nat×Operand)) (l:List (Nat×Nat×T)),(∀p∈pp,aT ι (ev p.2) (ρ p.2))->uh P fs ev pp=some l →
      bC (λ(a:Nat×Nat×T) (b:Nat×Value)=>(pl[b.1]? : Option (Nat×Nat))=some (a.1,a.2.1)/\aT ι a.2.2 b.2) l (pp.map λp=>(p.1,ρ p.2)):=by
      intro pp;induction pp with
      |nil=>intro l _ h;cases h;exact .nil
      |cons p pp S=>
       intro l c h;obtain⟨i,x⟩:=p;simp only[uh]at h;split at h
       ·rename_i f G;split at h
        ·rename_i n Y J I;cases h;refine .cons ⟨?_,c (i,x) (by simp)⟩ (S Y (λp E=>c p (by simp[E])) I);rw[O];simp[G,J]
        ·cases h
       ·cases h
     obtain⟨C,j,u⟩:=rI (ι:=ι) (place:=(pl[·]?)) (parts.toList.map λp=>(p.1,ρ p.2)) l z.cells U.cells.toList ys (g parts.toList l (λp E=>c p (by simpa using E)) V) y o;refine⟨.agg C.toArray,?_,C,rfl,u⟩
     have D:(fs.mapM λf=>(do pure (f.offset,<-sizeOf f.type):Sem (Nat×Nat))).run P w = .ok pl.toArray w:=by
      rw[<-iW (xs:=fs),Fv];show((Functor.map _ _:Sem _)).run P w=_
      rw[map_eq_pure_bind,run_bind,N];simp[run_pure]
     simp only[Instr.build,run_bind,B,aW Q];rw[D];simp only[];have e:(λ(x:Nat)=>pl.toArray[x]?)=(λ(x:Nat)=>pl[x]?):=by funext x;simp
     have F:(parts.map λp=>(p.1,ρ p.2)).toList=parts.toList.map λp=>(p.1,ρ p.2):=by simp
     rw[e,F];simp only[iW]at j;rw[j];rfl
   ·cases h
  ·cases h
 ·rename_i z k e R Q;split at h
  ·rename_i n J;obtain⟨U,B,d⟩:=iO (P:=P) (w:=w) (ι:=ι) R;have y:=cz.cells d;cases o:aA z.cells (oQ n ev parts.toList)with
   |none=>rw[o]at h;cases h
   |some ys=>
    rw[o]at h;cases h
    have g:∀(pp:List (Nat×Operand)),(∀p∈pp,aT ι (ev p.2) (ρ p.2)) →
     bC (λ(a:Nat×Nat×T) (b:Nat×Value)=>(some (b.1*n,n):Option (Nat×Nat))=some (a.1,a.2.1)/\aT ι a.2.2 b.2) (oQ n ev pp) (pp.map λp=>(p.1,ρ p.2)):=by
     intro pp;induction pp with
     |nil=>intro _;exact .nil
     |cons p pp S=>
      intro c;exact .cons ⟨rfl,c p (by simp)⟩ (S λq X=>c q (by simp[X]))
    obtain⟨C,j,u⟩:=rI (ι:=ι) (place:=λi=>some (i*n,n)) (parts.toList.map λp=>(p.1,ρ p.2)) _ z.cells U.cells.toList ys (g parts.toList (λp E=>c p (by simpa using E))) y o;refine⟨.agg C.toArray,?_,C,rfl,u⟩;have F:(parts.map λp=>(p.1,ρ p.2)).toList=parts.toList.map λp=>(p.1,ρ p.2):=by simp
    simp only[iW]at j;simp only[Instr.build,run_bind,B,aW Q,dy J,F,j];rfl
  ·cases h
 ·cases h
end
section
variable {P:Program}{ι:cV}{w:World}
theorem vJ{ev:Operand->T}{ρ:Operand->Value}{x:Option Operand}(h:∀y,x=some y->aT ι (ev y) (ρ y)):o7 ι (x.map ev) (x.map ρ):=by
 cases x with
 |none=>trivial
 |some y=>exact h y rfl
theorem zn{t:TypeId}{x:T}{u:Value}{lo hi mx:Option T}{d c mx':Option Value}{r:T}(y:P.underlying t=some .string)(z:aT ι x u)
 (k:o7 ι lo d) (n:o7 ι hi c) (o:o7 ι mx mx') (h:bn x lo hi mx=some r) :
 ∃v,(Instr.sliceAt t u d c mx').run P w = .ok v w/\aT ι r v:=by
 unfold bn at h;split at h
 ·rename_i s;split at h
  ·rename_i l g m j;cases h;obtain⟨e,rfl,rfl⟩:=z
   match mx',o with
   |none,_=>
    rw[<-size_data]at j;obtain⟨q,C,B,D,_⟩:=ie (P:=P) (w:=w) (ι:=ι) (cap:=e.size) k n (mx:=none) (mx':=none) trivial j (au _) (au _) false;refine⟨.string (e.extract l g),?_,e.extract l g,rfl,?_⟩
    ·simp only[Instr.sliceAt,run_bind,aW y,Instr.slice,uL,eP,cN,q,run_pure]
    ·rw[Ml];simp[nr]
  ·cases h
 ·cases h
theorem BP{t e:TypeId}{n:Nat}{x:T}{u:Value}{lo hi mx:Option T}{y j mx':Option Value}{r:T}(hu:P.underlying t=some (.slice e))(hn:dH P e=some n)(N:aT ι x u)
 (O:o7 ι lo y) (Q:o7 ι hi j) (R:o7 ι mx mx') (h:aB n x lo hi mx=some r) :
 ∃v,(Instr.sliceAt t u y j mx').run P w = .ok v w/\aT ι r v:=by
 have base:∀(mx':Option Value) (a:Option Addr) (len cap:Nat),(Instr.sliceAt t (.slice a len cap) y j mx').run P w =
  match (Instr.sliceBounds true len cap y j mx').run P w with
  | .ok (l,h,m) w' => .ok (.slice (if m=l then a else a.map (·.add (l*n))) (h-l) (m-l)) w'
  | .halt x w' => .halt x w':=by
  intro mx' a len cap;simp only[Instr.sliceAt,run_bind,aW hu,Instr.slice];cases (Instr.sliceBounds true len cap y j mx').run P w with
  |halt x w'=>rfl
  |ok p w'=>simp only[dy hn,run_pure]
 unfold aB at h;split at h
 ·rename_i b o len c;split at h
  ·rename_i l H m B;cases h;obtain⟨L,z,rfl,F⟩:=N;obtain⟨d,V,U,Y,k⟩:=ie (P:=P) (w:=w) (ι:=ι) (cap:=c) O Q R B (au _) F true
   have G:(if mx.isSome then m else c)=m:=by
    cases mx with
    |none=>simp[k rfl]
    |some _=>rfl
   rw[G]at d;refine⟨_,by rw[base,d],L,z,?_,by omega⟩;by_cases e:m=l
   ·simp[e]
   ·simp only[ae e,ni,add_eq,aH]
  ·cases h
 ·rename_i b o len g;split at h
  ·rename_i C;subst C;obtain⟨L,c,z,rfl,F,J⟩:=N;split at h
   ·rename_i l H m B;obtain⟨d,V,U,Y,k⟩:=ie (P:=P) (w:=w) (ι:=ι) (cap:=c) O Q R B F (au _) true;split at h
    ·cases h;simp only[FY,bY]at d;refine⟨_,by rw[base,d],L,z,?_,by omega⟩;by_cases e:m=l
     ·simp[e]
     ·simp only[ae e,ni,add_eq,aH]
    ·simp only[uL,eP,cN]at d;have Z:=k rfl;split at h
     ·rename_i X;cases h;refine⟨_,by rw[base,d],L,c-l,z,?_,by omega,?_⟩
      ·rw[ae (by omega)];simp only[ni,add_eq,aH]
      ·have:l*g+(c-l)*g=c*g:=(by rw[<-bJ];congr 1;omega);omega
     ·rename_i X;cases h;have I:H-l=0:=(by omega);have S:l=len:=(by omega);subst S;by_cases e:c=l
      ·refine⟨_,by rw[base,d],L,⟨L.b,L.base+o,none⟩,c-l,z,?_,?_⟩
       ·rw[af e,I]
       ·exact .inl (by omega)
      ·refine⟨_,by rw[base,d],L,⟨L.b,L.base+(o+l*g),none⟩,c-l,z,?_,?_⟩
       ·rw[ae e,I];simp only[ni,add_eq,aH]
       ·have:l*g+(c-l)*g=c*g:=(by rw[<-bJ];congr 1;omega);exact .inr ⟨o+l*g,rfl,by omega⟩
   ·cases h
  ·cases h
 ·rename_i b g;split at h
  ·rename_i C;subst C;obtain⟨L,a,c,z,rfl,J⟩:=N;split at h
   ·rename_i q B;obtain⟨l,H,m⟩:=q;cases h
    match mx',R with
    |none,_=>
     obtain⟨d,V,U,Y,k⟩:=ie (P:=P) (w:=w) (ι:=ι) (cap:=c) O Q (mx:=none) (mx':=none) trivial B (cc _) (au _) true;simp only[uL,eP,cN]at d;have E:l=0:=(by omega);have D:H=0:=(by omega);subst E D;refine⟨_,by rw[base,d],L,a,c,z,?_,J⟩;by_cases e:c=0
     ·simp[e]
     ·simp[e,add_eq,Go.Addr.add]
   ·cases h
  ·cases h
 ·split at h
  ·rename_i q B;obtain⟨l,H,m⟩:=q;cases h;simp only[aT,cz,bG]at N;subst N;obtain⟨d,V,U,Y,k⟩:=ie (P:=P) (w:=w) (ι:=ι) (cap:=0) O Q R B (au _) (au _) true
   have G:(if mx.isSome then m else 0)=0:=by
    cases mx with
    |none=>rfl
    |some _=>simp;omega
   rw[G]at d;have E:l=0:=by omega
   have D:H=0:=by omega
   subst E D;exact⟨_,by rw[base,d],by simp[aT,cz,bG]⟩
  ·cases h
 ·cases h
end
section
variable {P:Program}{ι:cV}{w:World}
theorem zm{t e:TypeId}{k n:Nat}{x:T}{u:Value}{lo hi mx:Option T}{d c mx':Option Value}{r:T}(G:P.underlying t=some (.array k e))(F:dH P e=some n)(H:aT ι x u)
 (z:o7 ι lo d) (B:o7 ι hi c) (C:o7 ι mx mx') (h:rJ k n x lo hi mx=some r) :
 ∃v,(Instr.sliceAt t u d c mx').run P w = .ok v w/\aT ι r v:=by
 unfold rJ at h;split at h
 ·rename_i b o;split at h
  ·rename_i l y m E;cases h;obtain⟨L,D,rfl⟩:=H;obtain⟨q,J,I,N,j⟩:=ie (P:=P) (w:=w) (ι:=ι) (cap:=k) z B C E (au _) (au _) false
   have g:(if mx.isSome then m else k)=m:=by
    cases mx with
    |none=>simp[j rfl]
    |some _=>rfl
   rw[g]at q;refine⟨.slice (some (if m=l then⟨L.b,L.base+o,none⟩else(⟨L.b,L.base+o,none⟩:Addr).add (l*n))) (y-l) (m-l),?_,L,D,?_,by omega⟩
   ·simp only[Instr.sliceAt,run_bind,aW G,Instr.sureAddr,run_pure,q,dy F]
   ·by_cases e:m=l
    ·simp[e]
    ·simp only[ae e,add_eq,aH]
  ·cases h
 ·cases h
theorem wH{s:TypeId}{fs:Array Field}{f n:Nat}{fd:Field}{x:T}{u:Value}{r:T}(d:P.underlying s=some (.struct fs))(b:fs[f]? = some fd)(c:dH P fd.type=some (n+1))
 (e:aT ι x u) (h:ab fd.offset x=some r):∃v,(Instr.fieldAt s u f).run P w = .ok v w/\aT ι r v:=by
 unfold ab at h;split at h
 ·cases h;obtain⟨L,a,rfl⟩:=e;refine⟨_,?_,zr a rfl rfl⟩;simp only[Instr.fieldAt,run_bind,aW d,b,Instr.sureAddr,run_pure,fieldPlace,dy c];rw[ae (by omega)];simp only[run_pure,add_eq,aH]
 ·cases h
theorem GD{s:TypeId}{fs:Array Field}{f:Nat}{fd:Field}{k:Option Nat}{x:T}{u:Value}{r:T}(e:P.underlying s=some (.struct fs))(c:fs[f]? = some fd)(d:Ha P fd.type=some k)
 (i:aT ι x u) (h:CB k fd.offset x=some r):∃v,(Instr.field s u f).run P w = .ok v w/\aT ι r v:=by
 unfold CB at h;split at h
 ·rename_i xs;split at h
  ·rename_i y b;cases h;obtain⟨cs,rfl,a⟩:=i;rw[<-xd d]at b;obtain⟨v,g,r⟩:=xe a b w;exact⟨v,by simp only[Instr.field,run_bind,aW e,c,asAgg,run_pure,g],r⟩
  ·cases h
 ·cases h
theorem Bt{t e:TypeId}{n:Nat}{x i:T}{u v:Value}{r:T}(F:P.underlying t=some (.slice e))(D:dH P e=some n)(B:aT ι x u)(hi:aT ι i v)
 (h:ar n x i=some r):∃z,(Instr.indexAt t u v).run P w = .ok z w/\aT ι r z:=by
 unfold ar at h;split at h
 ·rename_i b o len cap;split at h
  ·rename_i j C;cases h;obtain⟨k,i,rfl,q,y,rfl⟩:=tS hi C
   have E:∃L c,ι b=some L/\u = .slice (some ⟨L.b,L.base+o,none⟩) len c:=by
    cases cap with
    |known c=>obtain⟨L,d,e,_⟩:=B;exact⟨L,_,d,e⟩
    |grown g=>obtain⟨L,c,d,e,_⟩:=B;exact⟨L,_,d,e⟩
   obtain⟨L,c,d,rfl⟩:=E;refine⟨_,?_,zr d rfl rfl⟩;simp only[Instr.indexAt,asIntOf,run_bind,run_pure,aW F];rw[af ⟨q,y⟩];simp only[run_bind,dy D,run_pure,add_eq,aH]
  ·cases h
 ·cases h
theorem y4{t e:TypeId}{m n:Nat}{x i:T}{u v:Value}{r:T}(l:P.underlying t=some (.array m e))(g:dH P e=some n)(p:aT ι x u)(hi:aT ι i v)
 (h:bz m n x i=some r):∃z,(Instr.indexAt t u v).run P w = .ok z w/\aT ι r z:=by
 unfold bz at h;split at h
 ·rename_i b o;split at h
  ·rename_i j f;cases h;obtain⟨k,i,rfl,a,c,rfl⟩:=tS hi f;obtain⟨L,d,rfl⟩:=p;refine⟨_,?_,zr d rfl rfl⟩;simp only[Instr.indexAt,asIntOf,run_bind,run_pure,aW l,Instr.sureAddr];rw[af ⟨a,c⟩];simp only[run_bind,dy g,run_pure,add_eq,aH]
  ·cases h
 ·cases h
theorem Gh{t:TypeId}{x i:T}{u v:Value}{r:T}(m:P.underlying t=some .string)(n:aT ι x u)(hi:aT ι i v)
 (h:bZ x i=some r):∃z,(Instr.index t u v).run P w = .ok z w/\aT ι r z:=by
 unfold bZ at h;split at h
 ·rename_i l;split at h
  ·rename_i j g;split at h
   ·rename_i b d;cases h;obtain⟨k,i,rfl,c,f,rfl⟩:=tS hi g;obtain⟨s,rfl,rfl⟩:=n;refine⟨.int .u8 b.toNat,?_,rfl⟩;have a:i.toNat<s.size:=by rw[size_data];omega
    have e:s[i.toNat]? = some b:=by
     rw[ByteArray.getElem?_lt' s i.toNat a];rw[<-d];rw[aU (by rw[<-size_data];exact a)];rfl
    simp only[Instr.index,asIntOf,run_bind,run_pure,aW m,af c,e]
   ·cases h
  ·cases h
 ·cases h
theorem Gg{t e:TypeId}{m n:Nat}{k:Option Nat}{x i:T}{u v:Value}{r:T}(o:P.underlying t=some (.array m e))(l:dH P e=some n)(g:Ha P e=some k)(q:aT ι x u)(hi:aT ι i v)
 (h:pz k m n x i=some r):∃z,(Instr.index t u v).run P w = .ok z w/\aT ι r z:=by
 unfold pz at h;split at h
 ·rename_i xs;split at h
  ·rename_i j f;split at h
   ·rename_i y d;cases h;obtain⟨s,i,rfl,b,c,rfl⟩:=tS hi f;obtain⟨cs,rfl,a⟩:=q;rw[<-xd g]at d;obtain⟨v,p,r⟩:=xe a d w;refine⟨v,?_,r⟩;simp only[Instr.index,asIntOf,run_bind,run_pure,aW o];rw[af ⟨b,c⟩];simp only[run_bind,dy l,p]
   ·cases h
  ·cases h
 ·cases h
theorem MN(f:FuncId):∀(l:List T) (cs:List Value) (acc:List (Nat×Nat)) (c:List Value) (r:T),bC (aT ι) l cs →
 bC (λ(p:Nat×Nat) (u:Value)=>∃L,ι p.1=some L/\u = .pointer (some ⟨L.b,L.base+p.2,none⟩)) acc.reverse c->tJ f l acc=some r->aT ι r (.func (.func f) #[] (c++cs).toArray):=by
 intro l;induction l with
 |nil=>
  intro cs acc c r d e h;cases d;cases h;rw[lg];exact⟨c,rfl,e⟩
 |cons x l k=>
  intro cs acc c r d e h;cases d with
  | @cons _ v _ cs j d=>
    cases x with
    |any=>cases h
    |c6 _=>cases h
    |v x=>cases x with
     |agg _=>cases h
     |s x=>
      cases x<;>first | (cases h;done) | skip
      rename_i i o;obtain⟨L,g,rfl⟩:=j
      have:=k cs ((i,o)::acc) (c++[.pointer (some ⟨L.b,L.base+o,none⟩)]) r d (by
       rw[List.reverse_cons];exact cd e (.cons ⟨L,g,rfl⟩ .nil)) h
      simpa using this
theorem Bn(f:T->T->Option T)(g:Value->Value->Sem Value)(d:∀(x y r:T) (u v:Value),aT ι x u->aT ι y v->f x y=some r->∃z,(g u v).run P w = .ok z w/\aT ι r z) :
 ∀(l:List T) (x r:T) (u:Value) (vs:List Value),bC (aT ι) l vs->aT ι x u->kz f x l=some r->∃z,(vs.foldlM g u).run P w = .ok z w/\aT ι r z:=by
 intro l;induction l with
 |nil=>intro x r u vs c e h;cases c;cases h;exact⟨u,rfl,e⟩
 |cons y l C=>
  intro x r u vs c e h;cases c with
  | @cons _ v _ vs t c=>
    simp only[kz]at h;split at h
    ·rename_i z B;obtain⟨D,k,n⟩:=d x y z u v e t B;obtain⟨j,o,q⟩:=C z r D vs c n h;exact⟨j,by simp only[List.foldlM_cons,run_bind,k,o],q⟩
    ·cases h
theorem KX(x y r:T)(u v:Value)(a:aT ι x u)(b:aT ι y v)(h:l3 x y=some r):∃z,(Builtin.min2 u v).run P w = .ok z w/\aT ι r z:=by
 unfold l3 at h;split at h
 ·simp only[aT,cz,bG]at a b;subst a b;cases h;exact⟨_,rfl,rfl⟩
 ·cases h
theorem KU(x y r:T)(u v:Value)(a:aT ι x u)(b:aT ι y v)(h:xc x y=some r):∃z,(Builtin.max2 u v).run P w = .ok z w/\aT ι r z:=by
 unfold xc at h;split at h
 ·simp only[aT,cz,bG]at a b;subst a b;cases h;exact⟨_,rfl,rfl⟩
 ·cases h
theorem l5{α:Type}{β c:Type}{R:β->c->Prop}{f:α->β}{g:α->c}:∀{l:List α},(∀x∈l,R (f x) (g x))->bC R (l.map f) (l.map g)
 | [],_ => .nil
 |x::l,h => .cons (h x (by simp)) (l5 λy d=>h y (by simp[d]))
theorem Oo{x:T}{u:Value}{r:T}{ρ:Operand->Value}{o:Oper}{a:Operand}(b:o.op = .nilCheck a)(c:ρ a=u)(d:aT ι x u)(h:ba x=some r) :
 ∃v,(execOp ρ o).run P w = .ok (.value v) w/\aT ι r v:=by
 unfold ba at h;split at h
 ·cases h;obtain⟨L,f,e⟩:=d;refine⟨u,?_,L,f,e⟩;simp only[execOp,b,c,e,run_pure]
 ·cases h;obtain⟨cs,e,r⟩:=d;refine⟨u,?_,cs,e,r⟩;simp only[execOp,b,c,e,run_pure]
 ·cases h
end
section
variable {P:Program}{ι:cV}{w:World}
theorem Oy{o:Oper}{ev:Operand->T}{ρ:Operand->Value}{r:T}(q:∀x∈o.op.operands,aT ι (ev x) (ρ x))(h:qP P o.op ev=some r) :
 ∃v,(execOp ρ o).run P w = .ok (.value v) w/\aT ι r v:=by
 obtain⟨dst,op,ty,pos,after,guard⟩:=o;simp only at q h
 have B:∀(s:Sem Value),execOp ρ ⟨dst,op,ty,pos,after,guard⟩=(do pure (Next.value (<-s)))->(∃v,s.run P w = .ok v w/\aT ι r v) →
  ∃v,(execOp ρ ⟨dst,op,ty,pos,after,guard⟩).run P w = .ok (.value v) w/\aT ι r v:=by
  intro s D ⟨v,E,H⟩;exact⟨v,by rw[D];exact yb E,H⟩
 cases op with
 |move x=>simp only[qP]at h;cases h;exact⟨ρ x,rfl,q x (by simp[Op.operands])⟩
 |assign x=>simp only[qP]at h;cases h;exact⟨ρ x,rfl,q x (by simp[Op.operands])⟩
 |pick c a b=>
  simp only[qP]at h;obtain⟨v,E,H⟩:=Ga (P:=P) (w:=w) (q c (by simp[Op.operands])) (q a (by simp[Op.operands])) (q b (by simp[Op.operands])) h;refine⟨v,?_,H⟩;simp only[run_bind]at E;simp only[execOp,run_bind];cases J:(asBool (ρ c)).run P w with
  |halt x w'=>rw[J]at E;cases E
  |ok b w'=>
   rw[J]at E;simp only[run_pure]at E ⊢;cases E;rfl
 |build t parts=>
  refine B _ rfl (Gl (ev:=ev) ?_ h);intro p hp;refine q p.2 ?_;simp only[Op.operands,Fx,gl];exact⟨p,by simpa using hp,rfl⟩
 |nilCheck x=>simp only[qP]at h;exact Oo rfl rfl (q x (by simp[Op.operands])) h
 |binOp op t x y yt=>
  have j:=q x (by simp[Op.operands]);have G:=q y (by simp[Op.operands]);simp only[qP]at h;split at h
  ·exact B _ rfl (As j G h x y)
  ·exact B _ rfl (As j G h x y)
  ·split at h
   ·rename_i O;split at h
    ·rename_i hc;split at h
     ·rename_i b J;cases h;exact B _ rfl ⟨_,tR (P:=P) O j G J false x y (λ_=>hc),by simp[aT,cz,bG]⟩
     ·cases h
    ·cases h
   ·rename_i O;split at h
    ·rename_i hc;split at h
     ·rename_i b J;cases h;exact B _ rfl ⟨_,tR (P:=P) O j G J true x y (λ_=>hc),by simp[aT,cz,bG]⟩
     ·cases h
    ·cases h
   ·rename_i k U O;split at h
    ·rename_i b J;cases h;exact B _ rfl ⟨_,tR (P:=P) O j G J false x y (λe=>(U e).elim),by simp[aT,cz,bG]⟩
    ·cases h
   ·rename_i k U O;split at h
    ·rename_i b J;cases h;exact B _ rfl ⟨_,tR (P:=P) O j G J true x y (λe=>(U e).elim),by simp[aT,cz,bG]⟩
    ·cases h
   ·cases h
 |unOp op t x=>simp only[qP]at h;exact B _ rfl (ME (q x (by simp[Op.operands])) h)
 |convert s d x=>
  have j:=q x (by simp[Op.operands]);simp only[qP]at h;split at h
  ·rename_i d' k hs hd;unfold az at h;split at h
   ·rename_i k' n D;rw[D]at j;simp only[aT,cz,bG]at j;cases h;refine B _ rfl ⟨.int k (k.wrap n),?_,rfl⟩;rw[j];simp only[Go.convert,run_bind,aW hs,aW hd];cases d'<;>rfl
   ·cases h
  ·rename_i hs hd;unfold Ik at h;split at h
   ·rename_i l D;cases h;rw[D]at j;obtain⟨s',e,r⟩:=j;have V:aT ι (ev x) (.string s'):=(by rw[D];exact⟨s',rfl,r⟩);refine B _ rfl ⟨.string s',?_,V⟩;rw[e];simp only[Go.convert,run_bind,aW hs,aW hd];rfl
   ·cases h
  ·cases h
 |makeFunc fn first F=>
  cases fn with
  |func f=>
   simp only[qP]at h;split at h
   ·rename_i Z;have Q:bC (aT ι) (F.toList.map ev) (F.toList.map ρ):=l5 λx j=>q x (by simp[Op.operands];exact .inr (by simpa using j))
    have:=MN f _ _ [] [] r Q .nil h;refine B _ rfl ⟨.func (.func f) (first.map ρ) (F.map ρ),rfl,?_⟩;have e1:first = #[]:=Array.eq_empty_of_size_eq_zero Z
    subst e1;have e2:F.map ρ=(List.map ρ F.toList).toArray:=(by rw[<-Array.toList_map]);have e3:Array.map ρ #[] = #[]:=(by simp);rw[e2,e3];exact this
   ·cases h
  |method _=>cases h
  |methodOf _ _=>cases h
  |via _ _ _ _=>cases h
  |yield _=>cases h
 |slice t x lo hi mx=>
  have j:=q x (by simp[Op.operands]);have E:o7 ι (lo.map ev) (lo.map ρ):=vJ λy G=>q y (by subst G;simp[Op.operands])
  have H:o7 ι (hi.map ev) (hi.map ρ):=vJ λy G=>q y (by subst G;simp[Op.operands])
  have h3:o7 ι (mx.map ev) (mx.map ρ):=vJ λy G=>q y (by subst G;simp[Op.operands])
  simp only[qP]at h;split at h
  ·rename_i C;exact B _ rfl (zn C j E H h3 h)
  ·rename_i e C;split at h
   ·rename_i n I;exact B _ rfl (BP C I j E H h3 h)
   ·cases h
  ·rename_i k e C;split at h
   ·rename_i n I;exact B _ rfl (zm C I j E H h3 h)
   ·cases h
  ·cases h
 |fieldAddr s x f=>
  simp only[qP]at h;split at h
  ·rename_i fs C;split at h
   ·rename_i fd Z;split at h
    ·rename_i n I;exact B _ rfl (wH C Z I (q x (by simp[Op.operands])) h)
    ·cases h
   ·cases h
  ·cases h
 |field t x f=>
  simp only[qP]at h;split at h
  ·rename_i fs C;split at h
   ·rename_i fd Z;split at h
    ·rename_i k O;exact B _ rfl (GD C Z O (q x (by simp[Op.operands])) h)
    ·cases h
   ·cases h
  ·cases h
 |indexAddr t x i=>
  have j:=q x (by simp[Op.operands]);have hi:=q i (by simp[Op.operands]);simp only[qP]at h;split at h
  ·rename_i e C;split at h
   ·rename_i n I;exact B _ rfl (Bt C I j hi h)
   ·cases h
  ·rename_i k e C;split at h
   ·rename_i n I;exact B _ rfl (y4 C I j hi h)
   ·cases h
  ·cases h
 |index t x i=>
  have j:=q x (by simp[Op.operands]);have hi:=q i (by simp[Op.operands]);simp only[qP]at h;split at h
  ·rename_i C;exact B _ rfl (Gh C j hi h)
  ·rename_i k e C;split at h
   ·rename_i n pk I Sj;exact B _ rfl (Gg C I Sj j hi h)
   ·cases h
  ·cases h
 |extract x i=>
  have j:=q x (by simp[Op.operands]);simp only[qP]at h;unfold ai at h;split at h
  ·rename_i l D;rw[D]at j;obtain⟨vs,hv,V⟩:=j;split at h
   ·rename_i y G;cases h;obtain⟨v,E,H⟩:=cr V i y G;refine B _ rfl ⟨v,?_,H⟩;rw[hv];simp[Instr.extract,E,run_pure]
   ·cases h
  ·cases h
 |call c=>
  obtain⟨callee,args,argTypes⟩:=c;cases callee with
  |value f=>simp[qP]at h
  |invoke r n=>simp[qP]at h
  |builtin b=>
   have ha:∀x∈args,aT ι (ev x) (ρ x):=λx j=>q x (by simp[Op.operands,Call.operands,j])
   have one:∀{x:Operand},args.toList=[x]->args = #[x]:=by
    intro x e;rw[<-iW (xs:=args),e]
   have R:∀{x:TypeId},argTypes.toList=[x]->argTypes = #[x]:=by
    intro x e;rw[<-iW (xs:=argTypes),e]
   have N:bC (aT ι) (args.toList.map ev) (args.toList.map ρ):=l5 λx j=>ha x (by simpa using j)
   cases b<;>first | (simp[qP]at h;done) | skip
   ·simp only[qP]at h;split at h
    ·rename_i x t Y X;have ea:=one Y;have et:=R X;subst ea et;have j:=ha x (by simp);split at h
     ·rename_i e C;unfold Av at h;split at h
      ·rename_i b o n c D;cases h;rw[D]at j;obtain⟨L,hL,S,_⟩:=j;refine⟨.int .i64 c,?_,rfl⟩;simp[execOp,resolve,invoke,Go.builtin,run_bind,run_pure,Builtin.cap_,aW C,S,goInt]
      ·rename_i D;cases h;rw[D]at j;simp only[aT,cz,bG]at j;refine⟨.int .i64 0,?_,rfl⟩;simp[execOp,resolve,invoke,Go.builtin,run_bind,run_pure,Builtin.cap_,aW C,j,goInt]
      ·cases h
     ·cases h
    ·cases h
   ·simp only[qP]at h;split at h
    ·rename_i x t Y X;have ea:=one Y;have et:=R X;subst ea et;have j:=ha x (by simp);split at h
     ·rename_i C;unfold aV at h;split at h
      ·rename_i l D;cases h;rw[D]at j;obtain⟨s,S,r⟩:=j;refine⟨.int .i64 s.size,?_,?_⟩
       ·simp[execOp,resolve,invoke,Go.builtin,run_bind,run_pure,Builtin.len_,aW C,S,goInt]
       ·subst r;rw[size_data];rfl
      ·cases h
     ·rename_i e C;unfold aG at h;split at h
      ·rename_i b o n c D;cases h;rw[D]at j
       have hs:∃a c,ρ x = .slice a n c:=by
        cases c with
        |known c=>obtain⟨L,hL,e,_⟩:=j;exact⟨_,_,e⟩
        |grown g=>obtain⟨L,c,hL,e,_⟩:=j;exact⟨_,_,e⟩
       obtain⟨a,c,S⟩:=hs;refine⟨.int .i64 n,?_,rfl⟩;simp[execOp,resolve,invoke,Go.builtin,run_bind,run_pure,Builtin.len_,aW C,S,goInt]
      ·rename_i b g D;cases h;rw[D]at j;obtain⟨L,o,c,hL,S,_⟩:=j;refine⟨.int .i64 0,?_,rfl⟩;simp[execOp,resolve,invoke,Go.builtin,run_bind,run_pure,Builtin.len_,aW C,S,goInt]
      ·rename_i D;cases h;rw[D]at j;simp only[aT,cz,bG]at j;refine⟨.int .i64 0,?_,rfl⟩;simp[execOp,resolve,invoke,Go.builtin,run_bind,run_pure,Builtin.len_,aW C,j,goInt]
      ·cases h
     ·rename_i n e C;cases h;refine⟨.int .i64 n,?_,rfl⟩;simp[execOp,resolve,invoke,Go.builtin,run_bind,run_pure,Builtin.len_,aW C,goInt]
     ·cases h
    ·cases h
   ·simp only[qP]at h;split at h
    ·rename_i x r' D;rw[D]at N;cases Q:args.toList.map ρ with
     |nil=>rw[Q]at N;cases N
     |cons u vs=>
      rw[Q]at N;cases N with
      |cons j V=>
       obtain⟨z,E,H⟩:=Bn (P:=P) (w:=w) xc Builtin.max2 KU r' x r u vs V j h;refine⟨z,?_,H⟩;have e:(args.map ρ).toList=u::vs:=by simpa using Q
       simp only[execOp,resolve,invoke,Go.builtin,run_bind,run_pure,Builtin.max_,e,E]
    ·cases h
   ·simp only[qP]at h;split at h
    ·rename_i x r' D;rw[D]at N;cases Q:args.toList.map ρ with
     |nil=>rw[Q]at N;cases N
     |cons u vs=>
      rw[Q]at N;cases N with
      |cons j V=>
       obtain⟨z,E,H⟩:=Bn (P:=P) (w:=w) l3 Builtin.min2 KX r' x r u vs V j h;refine⟨z,?_,H⟩;have e:(args.map ρ).toList=u::vs:=by simpa using Q
       simp only[execOp,resolve,invoke,Go.builtin,run_bind,run_pure,Builtin.min_,e,E]
    ·cases h
 |_=>cases h
end
abbrev Mem:=Nat->Option er
def aa(x:T)(g:Mem):Option T:=
 match x with
 | .v (.s (.ptr i o))=>match g i with
   |some (.K _ vs)=>match vs[o]? with
    |some y=>some (.v (.s y))
    |none=>none
   |some (.mark vs)=>match vs[o]? with
    |some y=>some (.v (.s y))
    |none=>none
   |_=>none
 |_=>none
def ay(n:Nat)(x:T)(g:Mem):Option T:=
 match x with
 | .v (.s (.ptr i o))=>match g i with
   |some (.K _ vs)=>if o+n<=vs.length then some (.v (.agg ((vs.drop o).take n)))else none
   |some (.mark vs)=>if o+n<=vs.length then some (.v (.agg ((vs.drop o).take n)))else none
   |_=>none
 |_=>none
def lJ:List S->Option (List UInt8)
 | []=>some []
 | .int .u8 n::r=>match lJ r with
   |some l=>some (UInt8.ofNat n.toNat::l)
   |none=>none
 |_::_=>none
def bQ(x:T)(g:Mem):Option T:=
 match x with
 | .v (.s .av)=>some (Z (.str []))
 | .v (.s (.emp _ _))=>some (Z (.str []))
 | .v (.s (.sl i o n _))=>if n=0 then some (Z (.str []))else match g i with
   |some (.K _ vs)=>if o+n<=vs.length then match lJ ((vs.drop o).take n)with
    |some l=>some (Z (.str l))
    |none=>none
    else none
   |some (.mark vs)=>if o+n<=vs.length then match lJ ((vs.drop o).take n)with
    |some l=>some (Z (.str l))
    |none=>none
    else none
   |_=>none
 |_=>none
def lD:S->S->Option Bool
 | .int k a,.int k' b=>if k=k' then some (decide (a=b))else none
 | .str a,.str b=>some (decide (a=b))
 | .bool a,.bool b=>some (decide (a=b))
 |_,_=>none
def ig(k:S):List (S×V)->Nat->Option (Option (Nat×V))
 | [],_=>some none
 |(q,v)::r,n=>match lD k q with
  |some true=>some (some (n,v))
  |some false=>ig k r (n+1)
  |none=>none
def jt(ok:Bool)(zero:V)(m k:T)(g:Mem):Option T:=
 match m,k with
 | .v (.s .pb),.v (.s _)=>some (if ok then .c6 [zero,.s (.bool false)]else .v zero)
 | .v (.s (.map i)),.v (.s k)=>match g i with
   |some (.map es)=>match ig k es 0 with
    |some (some (_,v))=>some (if ok then .c6 [v,.s (.bool true)]else .v v)
    |some none=>some (if ok then .c6 [zero,.s (.bool false)]else .v zero)
    |none=>none
   |_=>none
 |_,_=>none
def lr(m:T)(g:Mem):Option T:=
 match m with
 | .v (.s .pb)=>some (I .i64 0)
 | .v (.s (.map i))=>match g i with
   |some (.map es)=>some (I .i64 es.length)
   |_=>none
 |_=>none
inductive KK where
 |i | s | b
 deriving DecidableEq
def y7(P:Program)(t:TypeId):Option KK:=
 match P.underlying t with
 |some (.int _)=>some .i
 |some .string=>some .s
 |some .bool=>some .b
 |_=>none
def isKey:KK->T->Bool
 | .i,.v (.s (.int _ _))=>true
 | .s,.v (.s (.str _))=>true
 | .b,.v (.s (.bool _))=>true
 |_,_=>false
def tP(P:Program)(op:Op)(ev:Operand->T)(g:Mem):Option T:=
 match op with
 | .load t a=>match fy P t with
   |some true=>match dH P t with
    |some n=>ay n (ev a) g
    |none=>none
   |some false=>aa (ev a) g
   |none=>none
 | .convert s d x=>match P.underlying s,P.underlying d with
   |some (.slice e),some .string=>match P.underlying e with
    |some (.int .u8)=>bQ (ev x) g
    |_=>none
   |_,_=>none
 | .lookup t x k ok=>match P.underlying t with
   |some (.map j c)=>match y7 P j,zeroOf P c with
    |some h,some z=>if isKey h (ev k)then jt ok z (ev x) (ev k) g else none
    |_,_=>none
   |_=>none
 | .call { callee := .builtin .len,args,argTypes }=>match args.toList,argTypes.toList with
   | [x],[t]=>match P.underlying t with
     |some (.map _ _)=>lr (ev x) g
     |_=>none
   |_,_=>none
 |_=>none
section
variable {P:Program}{ι:cV}{w:World}{g:Mem}
theorem La{op:Op}{ev:Operand->T}{d:Mem}{r:T}(c:∀i b,g i=some b->d i=some b)(h:tP P op ev g=some r):tP P op ev d=some r:=by
 have f:∀x r,aa x g=some r->aa x d=some r:=by
  intro x r h;unfold aa at h ⊢;split at h
  ·split at h
   ·rename_i a;simp only[c _ _ a];exact h
   ·rename_i a;simp only[c _ _ a];exact h
   ·cases h
  ·cases h
 have j:∀n x r,ay n x g=some r->ay n x d=some r:=by
  intro n x r h;unfold ay at h ⊢;split at h
  ·split at h
   ·rename_i a;simp only[c _ _ a];exact h
   ·rename_i a;simp only[c _ _ a];exact h
   ·cases h
  ·cases h
 have l:∀x r,bQ x g=some r->bQ x d=some r:=by
  intro x r h;unfold bQ at h ⊢;split at h
  ·exact h
  ·exact h
  ·split at h
   ·rename_i e;rw[af e];exact h
   ·rename_i e;rw[ae e];split at h
    ·rename_i a;simp only[c _ _ a];exact h
    ·rename_i a;simp only[c _ _ a];exact h
    ·cases h
  ·cases h
 have o:∀ok z m k r,jt ok z m k g=some r->jt ok z m k d=some r:=by
  intro ok z m k r h;unfold jt at h ⊢;split at h
  ·exact h
  ·split at h
   ·rename_i a;simp only[c _ _ a];exact h
   ·cases h
  ·cases h
 have p:∀m r,lr m g=some r->lr m d=some r:=by
  intro m r h;unfold lr at h ⊢;split at h
  ·exact h
  ·split at h
   ·rename_i a;simp only[c _ _ a];exact h
   ·cases h
  ·cases h
 unfold tP at h ⊢;split at h
 ·split at h
  ·split at h
   ·exact j _ _ _ h
   ·cases h
  ·exact f _ _ h
  ·cases h
 ·split at h
  ·split at h
   ·exact l _ _ h
   ·cases h
  ·cases h
 ·split at h
  ·split at h
   ·split at h
    ·rename_i q;simp only[q,bY];exact o _ _ _ _ _ h
    ·cases h
   ·cases h
  ·cases h
 ·split at h
  ·split at h
   ·exact p _ _ h
   ·cases h
  ·cases h
 ·cases h
theorem tI:∀{xs:List S} {cs:List Value} {l:List UInt8},bC (bG ι) xs cs->lJ xs=some l->∃ns:List Int,cs=ns.map (Value.int .u8)/\l=ns.map λn=>UInt8.ofNat n.toNat:=by
 intro xs;induction xs with
 |nil=>intro cs l h c;cases h;cases c;exact⟨[],rfl,rfl⟩
 |cons x xs g=>
  intro cs l h c;cases h with
  |cons a h=>
   unfold lJ at c;split at c
   ·rename_i d;cases d
   ·rename_i n r d;cases d;split at c
    ·rename_i j e;cases c;obtain⟨ns,rfl,rfl⟩:=g h e;simp only[bG]at a;subst a;exact⟨n::ns,rfl,rfl⟩
    ·cases c
   ·cases c
theorem foldl_push(ns:List Int):∀(s:ByteArray),(ns.foldl (λr n=>r.push (UInt8.ofNat n.toNat)) s).data.toList=s.data.toList++ns.map λn=>UInt8.ofNat n.toNat:=by
 induction ns with
 |nil=>intro s;simp
 |cons n ns c=>
  intro s;rw[Af,c];simp[ByteArray.data_push]
def oO(d:TypeDesc)(a:S):Prop:=match d,a with | .int _,.int _ _=>True | .string,.str _=>True | .bool,.bool _=>True | _,_=>False
theorem xC{a b:S}{u v:Value}{r:Bool}(c:bG ι a u)(g:bG ι b v)(h:lD a b=some r)(d:TypeDesc)
 (j:oO d a) :
 Instr.sameNow d u v=some r:=by
 cases a<;>cases b<;>simp only[lD]at h<;>first | (cases h;done) | skip
 ·simp only[bG]at c g;subst c g;rename_i a b;cases d<;>simp[oO]at j
  cases h;cases a<;>cases b<;>rfl
 ·simp only[bG]at c g;subst c g;cases d<;>simp[oO]at j
  rename_i k a k' b _;by_cases e:k=k'
  ·subst e;rw[af rfl]at h;cases h;simp[Instr.sameNow,uU]
  ·rw[ae e]at h;cases h
 ·obtain⟨s,rfl,rfl⟩:=c;obtain⟨n,rfl,rfl⟩:=g;cases d<;>simp[oO]at j
  cases h;simp only[Instr.sameNow];rw[beq_toListBytes,ByteArray.toList_eq,ByteArray.toList_eq,jV]
theorem F6{k:S}{u:Value}(z:bG ι k u)(d:TypeDesc)(t:oO d k) :
 ∀(es:List (S×V)) (c:List MapEntry) (n:Nat) (r:Option (Nat×V)),bC (iC ι) es c->ig k es n=some r →
  match r with
  |none=>Instr.findNow d u c n=some none
  |some (j,v)=>∃v',Instr.findNow d u c n=some (some (j,v'))/\cz ι v v'/\n<=j/\∃q e,es[j-n]? = some (q,v)/\c[j-n]? = some e/\lD k q=some true/\e.val=v':=by
 intro es;induction es with
 |nil=>intro c n r h o;cases h;cases o;rfl
 |cons p es I=>
  intro c n r h o;obtain⟨q,v⟩:=p;cases h with
  | @cons _ e _ c x h=>
    simp only[ig]at o;split at o
    ·rename_i w;cases o;have:=xC z x.1 w d t;exact⟨e.val,by simp[Instr.findNow,this],x.2,au _,q,e,by simp,by simp,w,rfl⟩
    ·rename_i w;have:=xC z x.1 w d t;have g:=I c (n+1) r h o;cases r with
     |none=>simp[Instr.findNow,this,g]
     |some J=>
      obtain⟨j,v⟩:=J;obtain⟨v',C,D,N,q',B,E,F,G,H⟩:=g;have y:j-n=(j-(n+1))+1:=(by omega);exact⟨v',by simp[Instr.findNow,this,C],D,by omega,q',B,by rw[y];simpa using E,by rw[y];simpa using F,G,H⟩
    ·cases o
theorem oP{e:TypeId}{f:KK}{k:S}{u:Value}(h:y7 P e=some f)(c:isKey f (.v (.s k))=true)(b:bG ι k u)(emp:Bool)(n:Nat) :
 ∃d,P.underlying e=some d/\oO d k/\(Instr.checkKey emp (n+1) e u).run P w = .ok () w:=by
 unfold y7 at h;split at h
 ·rename_i q a;cases h;cases k<;>simp[isKey]at c
  simp only[bG]at b;subst b;exact⟨_,a,trivial,by simp[Instr.checkKey,run_bind,aW a,run_pure]⟩
 ·rename_i a;cases h;cases k<;>simp[isKey]at c
  obtain⟨s,rfl,_⟩:=b;exact⟨_,a,trivial,by simp[Instr.checkKey,run_bind,aW a,run_pure]⟩
 ·rename_i a;cases h;cases k<;>simp[isKey]at c
  simp only[bG]at b;subst b;exact⟨_,a,trivial,by simp[Instr.checkKey,run_bind,aW a,run_pure]⟩
 ·cases h
theorem il{n:TypeId}{x:KK}{k:S}{u:Value}(h:y7 P n=some x)(E:isKey x (.v (.s k))=true)(t:bG ι k u){es:List (S×V)}{c:List MapEntry}{r:Option (Nat×V)}
 (C:bC (iC ι) es c) (D:ig k es 0=some r) :
 match r with
 |none=>(Instr.findKey n u c).run P w = .ok none w
 |some (j,v)=>∃v',(Instr.findKey n u c).run P w = .ok (some (j,v')) w/\cz ι v v'/\∃q e,es[j]? = some (q,v)/\c[j]? = some e/\lD k q=some true/\e.val=v':=by
 obtain⟨d,o,g,_⟩:=oP (w:=w) h E t false 0;have:=F6 t d g es c 0 r C D;cases r with
 |none=>simp[Instr.findKey,run_bind,aW o,this,run_pure]
 |some F=>
  obtain⟨j,v⟩:=F;obtain⟨v',y,z,_,q,e,B⟩:=this;exact⟨v',by simp[Instr.findKey,run_bind,aW o,y,run_pure],z,q,e,by simpa using B⟩
theorem xE{t:TypeId}{x:T}{u:Value}{r:T}(j:fy P t=some false)(f:Rel ι g w)(k:aT ι x u)(h:aa x g=some r) :
 ∃v,(Instr.loadAt t u).run P w = .ok v w/\aT ι r v:=by
 unfold aa at h;split at h
 ·rename_i i o;obtain⟨L,e,rfl⟩:=k;split at h
  ·rename_i own vs a;split at h
   ·rename_i y c;cases h;obtain⟨v,b,d⟩:=oh (P:=P) f e a c;exact⟨v,by simp only[Instr.loadAt,Instr.sureAddr,run_bind,run_pure,loadVar,iM j,eP,cN,b],d⟩
   ·cases h
  ·rename_i vs a;split at h
   ·rename_i y c;cases h;obtain⟨v,b,d⟩:=oh (P:=P) f.u7 e (own:=false) (vs:=vs) (by rw[a];rfl) c;exact⟨v,by simp only[Instr.loadAt,Instr.sureAddr,run_bind,run_pure,loadVar,iM j,eP,cN,b],d⟩
   ·cases h
  ·cases h
 ·cases h
theorem xG{t:TypeId}{n:Nat}{x:T}{u:Value}{r:T}(f:fy P t=some true)(j:dH P t=some n)(e:Rel ι g w)(k:aT ι x u)(h:ay n x g=some r) :
 ∃v,(Instr.loadAt t u).run P w = .ok v w/\aT ι r v:=by
 unfold ay at h;split at h
 ·rename_i i o;obtain⟨L,d,rfl⟩:=k;split at h
  ·rename_i own vs a;split at h
   ·rename_i c;cases h;obtain⟨cs,b,rc⟩:=run_loadCells (P:=P) e d a (o:=o) (n:=n) rfl (by simp;omega);exact⟨.agg cs.toArray,by simp only[Instr.loadAt,Instr.sureAddr,run_bind,run_pure,loadVar,iM f,bY,dy j,b],cs,rfl,rc⟩
   ·cases h
  ·rename_i vs a;split at h
   ·rename_i c;cases h;obtain⟨cs,b,rc⟩:=run_loadCells (P:=P) e.u7 d (own:=false) (vs:=vs) (by rw[a];rfl) (o:=o) (n:=n) rfl (by simp;omega);exact⟨.agg cs.toArray,by simp only[Instr.loadAt,Instr.sureAddr,run_bind,run_pure,loadVar,iM f,bY,dy j,b],cs,rfl,rc⟩
   ·cases h
  ·cases h
 ·cases h
theorem iP{i o n:Nat}{c:Cap}{u:Value}(h:bG ι (.sl i o n c) u):∃L k,ι i=some L/\u = .slice (some ⟨L.b,L.base+o,none⟩) n k/\n<=k:=by
 cases c with
 |known c=>obtain⟨L,j,e,d⟩:=h;exact⟨L,c,j,e,d⟩
 |grown g=>obtain⟨L,c,j,e,d,_⟩:=h;exact⟨L,c,j,e,d⟩
theorem yC{x:T}{u:Value}{r:T}(q:Rel ι g w)(d:aT ι x u)(h:bQ x g=some r) :
 ∃v,(Conv.bytesToString u).run P w = .ok v w/\aT ι r v:=by
 unfold bQ at h;split at h
 ·simp only[aT,cz,bG]at d;subst d;cases h;exact⟨.string .empty,rfl,⟨.empty,rfl,rfl⟩⟩
 ·obtain⟨L,a,c,e,rfl,_⟩:=d;cases h;refine⟨.string .empty,?_,⟨.empty,rfl,rfl⟩⟩;have:=run_bytesToString (P:=P) w a 0 c [] (by simp[loadCells,loadCellsFrom,run_pure])
  simpa using this
 ·rename_i i o n c;obtain⟨L,k,e,rfl,_⟩:=iP d;split at h
  ·rename_i s;subst s;cases h;refine⟨.string .empty,?_,⟨.empty,rfl,rfl⟩⟩;have:=run_bytesToString (P:=P) w ⟨L.b,L.base+o,none⟩ 0 k [] (by simp[loadCells,loadCellsFrom,run_pure])
   simpa using this
  split at h
  ·rename_i own vs f;split at h
   ·rename_i p;split at h
    ·rename_i l m;cases h;obtain⟨cs,j,rc⟩:=run_loadCells (P:=P) q e f (o:=o) (n:=n) rfl (by simp;omega);obtain⟨ns,rfl,rfl⟩:=tI rc m;refine⟨_,run_bytesToString (P:=P) w ⟨L.b,L.base+o,none⟩ n k ns j,⟨_,rfl,?_⟩⟩;rw[foldl_push];rfl
    ·cases h
   ·cases h
  ·rename_i vs f;split at h
   ·rename_i p;split at h
    ·rename_i l m;cases h;obtain⟨cs,j,rc⟩:=run_loadCells (P:=P) q.u7 e (own:=false) (vs:=vs) (by rw[f];rfl) (o:=o) (n:=n) rfl (by simp;omega);obtain⟨ns,rfl,rfl⟩:=tI rc m;refine⟨_,run_bytesToString (P:=P) w ⟨L.b,L.base+o,none⟩ n k ns j,⟨_,rfl,?_⟩⟩;rw[foldl_push];rfl
    ·cases h
   ·cases h
  ·cases h
 ·cases h
theorem Ox{o:Oper}{ev:Operand->T}{ρ:Operand->Value}{r:T}(hR:Rel ι g w)(C:∀x∈o.op.operands,aT ι (ev x) (ρ x))(h:tP P o.op ev g=some r) :
 ∃v,(execOp ρ o).run P w = .ok (.value v) w/\aT ι r v:=by
 obtain⟨dst,op,ty,pos,after,guard⟩:=o;simp only at C h
 have I:∀(s:Sem Value),execOp ρ ⟨dst,op,ty,pos,after,guard⟩=(do pure (Next.value (<-s)))->(∃v,s.run P w = .ok v w/\aT ι r v) →
  ∃v,(execOp ρ ⟨dst,op,ty,pos,after,guard⟩).run P w = .ok (.value v) w/\aT ι r v:=by
  intro s U ⟨v,Q,X⟩;exact⟨v,by rw[U];exact yb Q,X⟩
 cases op with
 |load t a=>
  simp only[tP]at h;split at h
  ·rename_i ha;split at h
   ·rename_i n hn;exact I _ rfl (xG ha hn hR (C a (by simp[Op.operands])) h)
   ·cases h
  ·rename_i ha;exact I _ rfl (xE ha hR (C a (by simp[Op.operands])) h)
  ·cases h
 |convert s d x=>
  have u:=C x (by simp[Op.operands]);simp only[tP]at h;split at h
  ·rename_i e hs hd;split at h
   ·rename_i U;obtain⟨v,Q,X⟩:=yC (P:=P) hR u h;refine I _ rfl ⟨v,?_,X⟩;rw[<-Q]
    have:∃a n c,ρ x = .slice a n c:=by
     unfold bQ at h;split at h
     ·rename_i J;rw[J]at u;exact⟨none,0,0,u⟩
     ·rename_i J;rw[J]at u;obtain⟨L,o,c,hL,e,_⟩:=u;exact⟨_,_,_,e⟩
     ·rename_i J;rw[J]at u;obtain⟨L,k,hL,e,_⟩:=iP u;exact⟨_,_,_,e⟩
     ·cases h
    obtain⟨a,n,c,e'⟩:=this;rw[e'];exact run_convert_bytes_string w s d e a n c hs U hd
   ·cases h
  ·cases h
 |lookup t x k ok=>
  have u:=C x (by simp[Op.operands]);have Y:=C k (by simp[Op.operands]);simp only[tP]at h;split at h
  ·rename_i kt et Z;split at h
   ·rename_i kk z N hz;obtain⟨zv,Sj,y⟩:=iO (P:=P) (w:=w) (ι:=ι) hz;split at h
    ·rename_i F;refine I _ rfl ?_;unfold jt at h;split at h
     ·rename_i kv Sp V;rw[Sp]at u;rw[V]at Y F;simp only[aT,cz,bG]at u;obtain⟨d,hd,_,H⟩:=oP (P:=P) (w:=w) N F Y true 9999;have q:(Instr.checkKey true 10000 kt (ρ k)).run P w = .ok () w:=H;have Sn:(Instr.findKey kt (ρ k) []).run P w = .ok none w:=by simp[Instr.findKey,run_bind,aW hd,Instr.findNow,run_pure]
      have B:(Instr.lookup t (ρ x) (ρ k) ok).run P w = .ok (if ok then .tuple #[zv,.bool false]else zv) w:=by
       simp only[Instr.lookup,run_bind,aW Z,u,run_pure,List.isEmpty_toArray,List.isEmpty_nil,q,Sn,Sj]
      refine⟨_,B,?_⟩;cases h;cases ok
      ·exact y
      ·exact⟨[zv,.bool false],rfl,.cons y (.cons rfl .nil)⟩
     ·rename_i i kv Sp V;rw[Sp]at u;rw[V]at Y F;obtain⟨L,hL,O⟩:=u;split at h
      ·rename_i es Sl;obtain⟨G,S,J,D,_⟩:=hR.blk i L _ hL Sl;obtain⟨d,hd,_,H⟩:=oP (P:=P) (w:=w) N F Y G.isEmpty 9999;have q:(Instr.checkKey G.isEmpty 10000 kt (ρ k)).run P w = .ok () w:=H;have E:(getObj L.b).run P w = .ok (.map G S) w:=(by simp[getObj,Sem.run,J]);split at h
       ·rename_i j v Sm;obtain⟨v',Q,X,_⟩:=il (P:=P) (w:=w) N F Y D Sm
        have B:(Instr.lookup t (ρ x) (ρ k) ok).run P w = .ok (if ok then .tuple #[v',.bool true]else v') w:=by
         simp only[Instr.lookup,run_bind,aW Z,O,E,run_pure,q,Q]
        refine⟨_,B,?_⟩;cases h;cases ok
        ·exact X
        ·exact⟨[v',.bool true],rfl,.cons X (.cons rfl .nil)⟩
       ·rename_i Sm;have Q:=il (P:=P) (w:=w) N F Y D Sm;simp only at Q
        have B:(Instr.lookup t (ρ x) (ρ k) ok).run P w = .ok (if ok then .tuple #[zv,.bool false]else zv) w:=by
         simp only[Instr.lookup,run_bind,aW Z,O,E,run_pure,q,Q,Sj]
        refine⟨_,B,?_⟩;cases h;cases ok
        ·exact y
        ·exact⟨[zv,.bool false],rfl,.cons y (.cons rfl .nil)⟩
       ·cases h
      ·cases h
     ·cases h
    ·cases h
   ·cases h
  ·cases h
 |call c=>
  obtain⟨callee,args,argTypes⟩:=c;cases callee with
  |value f=>simp[tP]at h
  |invoke r n=>simp[tP]at h
  |builtin b=>
   cases b<;>first | (simp[tP]at h;done) | skip
   have one:∀{x:Operand},args.toList=[x]->args = #[x]:=by
    intro x e;rw[<-iW (xs:=args),e]
   have Sk:∀{x:TypeId},argTypes.toList=[x]->argTypes = #[x]:=by
    intro x e;rw[<-iW (xs:=argTypes),e]
   simp only[tP]at h;split at h
   ·rename_i x t Ss Sr;have ea:=one Ss;have et:=Sk Sr;subst ea et;have u:=C x (by simp[Op.operands,Call.operands]);split at h
    ·rename_i kt et Z;unfold lr at h;split at h
     ·rename_i U;cases h;rw[U]at u;simp only[aT,cz,bG]at u;refine⟨.int .i64 0,?_,rfl⟩;simp[execOp,resolve,invoke,Go.builtin,run_bind,run_pure,Builtin.len_,aW Z,u,goInt]
     ·rename_i i U;rw[U]at u;obtain⟨L,hL,O⟩:=u;split at h
      ·rename_i es Sl;cases h;obtain⟨G,S,J,D,_⟩:=hR.blk i L _ hL Sl;have E:(getObj L.b).run P w = .ok (.map G S) w:=(by simp[getObj,Sem.run,J]);have R:=aP D;simp only[gf]at R;refine⟨.int .i64 G.size,?_,by rw[<-R];rfl⟩;simp[execOp,resolve,invoke,Go.builtin,run_bind,run_pure,Builtin.len_,aW Z,O,E,goInt]
      ·cases h
     ·cases h
    ·cases h
   ·cases h
 |_=>simp[tP]at h
end
end Go.Abs
