/-
  Several texts in one: what functions that the law reaches compute. No conditions but those named in each line.
-/
import Derived.Test.YtbohejffelipoaaGreatDoorAbsE
import Derived.Test.YtbohejffelipoaaGreatDoorAbsD
import Derived.Test.YtbohejffelipoaaGreatDoorRows
set_option linter.unusedVariables false
set_option linter.unusedSimpArgs false
set_option maxHeartbeats 4000000
namespace Go.Proofs.YtbohejffelipoaaGreatDoor
open Go Go.Abs Go.Abs.F
noncomputable section
def kO:List (S×V)->Option (List (List UInt8))
 | []=>some []
 |(.str n,_)::r=>match kO r with
  |some l=>match Nat.ble n.length 1000 && !l.contains n with
   |true=>some (n::l)
   |false=>none
  |none=>none
 |_::_=>none
def td:List UInt8->List UInt8->Bool
 | [],_=>true
 |_::_,[]=>false
 |a::r,b::t=>match Nat.blt a.toNat b.toNat with
  |true=>true
  |false=>match Nat.beq a.toNat b.toNat with
   |true=>td r t
   |false=>false
def G9(n:List UInt8):List (List UInt8)->List (List UInt8)
 | []=>[n]
 |m::r=>match td n m with
  |true=>n::m::r
  |false=>m::G9 n r
def dL:List (List UInt8)->List (List UInt8)
 | []=>[]
 |n::r=>G9 n (dL r)
def fT:bc:=λf c σ=>match Nat.beq f 29 with
 |false=>none
 |true=>match c with
  | [.v (.s (.ptr i o))]=>match σ.get i with
    |some (.K _ vs)=>match vs[o+1]? with
     |some (.map m)=>match σ.get m with
      |some (.map es)=>match Nat.ble es.length 1000,kO es with
       |true,some []=>some (Z .av,σ)
       |true,some (k::l)=>some (Z (.sl σ.size 0 (l.length+1) (.grown 1)),σ.push (.K false ((dL (k::l)).map S.str)))
       |_,_=>none
      |_=>none
     |_=>none
    |_=>none
  |_=>none
abbrev KH:List Nat:=[247,248]
abbrev oc:bc:=xR (EZ KH 246) (ph 181)
abbrev Pc:bc:=xR oc (fU (gA Tryz.prog 64 pR 8) [167])
abbrev BV:bc:=vy 2 111
abbrev xX:bc:=xR Pc BV
abbrev QQ:bc:=xR (rM 136 5 [iz,iz,iz,iz,.int .u32 0]) (o9 135 5)
abbrev od:bc:=fU (gA Tryz.prog 64 pR 8) [167]
def ko:List T->Bool
 | [.v (.s (.int _ n))]=>decide (n<=64)
 | [.v (.s (.str nm))]=>match nm with
   | [_,_]=>true
   | [c,a,b]=>Nat.beq c.toNat 108||Nat.ble ((a.toNat-48)*10+(b.toNat-48)) 64
   |_=>false
 |_=>false
def HQ(F:List Nat)(c:bc):bc:=λf d σ=>match F.contains f with
 |true=>match ko d with
  |true=>c f d σ
  |false=>none
 |false=>none
abbrev e4:List Nat:=[90,69,52]
abbrev QP:bc:=xR (HQ e4 (fU (gA Tryz.prog 64 od 16) e4)) QQ
abbrev Li:bc:=xR fT (xR QP xX)
abbrev fq:bc:=xR (nF 7 true) Li
abbrev R(d:Nat):bc:=gA Tryz.prog 8192 fq d
abbrev Qy(k:Nat)(f:Qi):Prop:=∀(d:Nat) (s:St),R (d+1) k [] s=f (R d) 8192 s
abbrev fC(k:Nat)(f:fh):Prop:=∀(d:Nat) (a:T) (s:St),R (d+1) k [a] s=f (R d) 8192 a s
abbrev iB(k:Nat)(f:iA):Prop:=∀(d:Nat) (a b:T) (s:St),R (d+1) k [a,b] s=f (R d) 8192 a b s
abbrev My(k:Nat)(f:F4):Prop:=∀(d:Nat) (a b c:T) (s:St),R (d+1) k [a,b,c] s=f (R d) 8192 a b c s
abbrev Rs(k:Nat)(f:QY):Prop:=∀(d:Nat) (a b c e:T) (s:St),R (d+1) k [a,b,c,e] s=f (R d) 8192 a b c e s
abbrev Sa(k:Nat)(f:RU):Prop:=∀(d:Nat) (a b c e g:T) (s:St),R (d+1) k [a,b,c,e,g] s=f (R d) 8192 a b c e g s
end
noncomputable section
theorem wk{F:List Nat}{c:bc}{f:Nat}{d:List T}{σ:St}(h:c f d σ=none):HQ F c f d σ=none:=by
 unfold HQ;cases F.contains f with
 |false=>rfl
 |true=>
  cases ko d with
  |true=>exact h
  |false=>rfl
theorem L3{F:List Nat}{c:bc}{f:Nat}{a:List T}{σ:St}{r:T×St}(b:F.contains f=true)(d:ko a=true)(h:c f a σ=some r):HQ F c f a σ=some r:=by
 unfold HQ;rw[b,d];exact h
theorem kV{f:Nat}{c:List T}{σ:St}(h:(!Nat.beq f 7 && !Nat.beq f 29 && !Nat.beq f 90 && !Nat.beq f 69 && !Nat.beq f 52 && !Nat.beq f 136 && !Nat.beq f 135)=true):fq f c σ=xX f c σ:=by
 simp only[aM,ku]at h;obtain⟨⟨⟨⟨⟨⟨u,w⟩,x⟩,d⟩,g⟩,y⟩,z⟩:=h;have n:nF 7 true f c σ=none:=by simp[nF,u]
 have o:fT f c σ=none:=by simp only[fT,w]
 have q:HQ e4 (fU (gA Tryz.prog 64 od 16) e4) f c σ=none:=wk <| by
  have:e4.contains f=false:=by
   have B:f≠90:=λe=>by subst e;cases x
   have j:f≠69:=λe=>by subst e;cases d
   have k:f≠52:=λe=>by subst e;cases g
   simp[e4,B,j,k]
  simp only[fU,this,gh]
 have r:rM 136 5 [iz,iz,iz,iz,.int .u32 0] f c σ=none:=by simp only[rM,y]
 have t:o9 135 5 f c σ=none:=by simp only[o9,z]
 exact(bA n).trans ((bA o).trans (bA ((bA q).trans ((bA r).trans t))))
theorem E8{f:Nat}{l:Bs}{c:UInt8}{σ:St}(h:(KH.contains f && !Nat.beq f 7)=true):fq f [Z (.str l),Z (.str [c])] σ=some (J (qa c l 0),σ):=by
 simp only[aM,ku]at h;have d:f=247\/f=248:=by simpa[KH]using h.1
 rw[kV (by rcases d with rfl | rfl<;>decide)];exact dG (dG (dG (PO h.1)))
theorem Ll{l:Bs}{c:UInt8}{σ:St}:fq 246 [Z (.str l),Z (.str [c])] σ=some (J (gK c l:Nat),σ):=by
 rw[kV (by decide)];exact dG (dG (dG (N3 (by decide))))
theorem He{x:S}{l:List Bs}{a:Bs}{σ:St}(h:RT σ x l)(e:dI l+l.length*a.length<=1000000)(f:l.length<=1000000):fq 181 [Z x,Z (.str a)] σ=some (Z (.str (eQ a l)),σ):=by
 rw[kV (by decide)]
 have b:EZ KH 246 181 [Z x,Z (.str a)] σ=none:=by
  have c:KH.contains 181=false:=by decide
  have d:Nat.beq 181 246=false:=by decide
  simp only[EZ,c,d]
 exact dG (dG ((bA b).trans (KI h e f)))
theorem Ln(σ:St):fq 167 [Z (.str [48,49,50,51,52,53,54,55,56,57])] σ=some (.c6 [.agg ((List.range 256).map λc=>S.bool (Nat.ble 48 c&&Nat.ble c 57)),.s (.bool true)],σ):=by
 rw[kV (by decide)]
 have a:oc 167 [Z (.str [48,49,50,51,52,53,54,55,56,57])] σ=none:=by
  have b:KH.contains 167=false:=by decide
  have d:Nat.beq 167 246=false:=by decide
  have e:Nat.beq 167 181=false:=by decide
  simp only[oc,xR,EZ,b,d,ph,e]
 exact dG ((bA a).trans (jm (by decide) (by kernel_rfl) (by kernel_rfl)))
theorem p4(d:Nat)(s:St):R (d+1) 7 [] s=some (B true,s):=ep rfl
theorem vO{σ:St}{c:List T}:fq 135 c σ=o9 135 5 135 c σ:=by
 have g:nF 7 true 135 c σ=none:=by
  have:Nat.beq 135 7=false:=by decide
  simp only[nF,this,gh]
 have j:fT 135 c σ=none:=by
  have:Nat.beq 135 29=false:=by decide
  simp only[fT,this]
 have d:HQ e4 (fU (gA Tryz.prog 64 od 16) e4) 135 c σ=none:=wk <| by
  have:e4.contains 135=false:=by decide
  simp only[fU,this,gh]
 have e:rM 136 5 [iz,iz,iz,iz,.int .u32 0] 135 c σ=none:=by
  have:Nat.beq 135 136=false:=by decide
  simp only[rM,this]
 have k:xX 135 c σ=none:=by
  have n:KH.contains 135=false:=by decide
  have o:Nat.beq 135 246=false:=by decide
  have q:Nat.beq 135 181=false:=by decide
  have t:[167].contains 135=false:=by decide
  have u:oc 135 c σ=none:=by
   simp only[oc,xR,EZ,n,o,ph,q]
  have w:Nat.beq 135 111=false:=by decide
  exact(bA ((bA u).trans (by simp only[fU,t,gh]))).trans (by simp only[BV,vy,w])
 refine(bA g).trans ((bA j).trans ?_);cases h:o9 135 5 135 c σ with
 |some r=>exact dG ((bA d).trans ((bA e).trans h))
 |none=>exact(bA ((bA d).trans ((bA e).trans h))).trans k
theorem Lm{σ:St}{c:List T}{r:T×St}(h:rM 136 5 [iz,iz,iz,iz,.int .u32 0] 136 c σ=some r):fq 136 c σ=some r:=by
 have d:nF 7 true 136 c σ=none:=by
  have:Nat.beq 136 7=false:=by decide
  simp only[nF,this,gh]
 have e:fT 136 c σ=none:=by
  have:Nat.beq 136 29=false:=by decide
  simp only[fT,this]
 have g:HQ e4 (fU (gA Tryz.prog 64 od 16) e4) 136 c σ=none:=wk <| by
  have:e4.contains 136=false:=by decide
  simp only[fU,this,gh]
 exact(bA d).trans ((bA e).trans (dG ((bA g).trans (dG h))))
theorem qU{f:Nat}{e:List T}{v:T}(d:Nat)(s:St)(g:(!Nat.beq f 7 && !Nat.beq f 29)=true)(k:ko e=true)(c:fU (gA Tryz.prog 64 od 16) e4 f e s=some (v,s)):R (d+1) f e s=some (v,s):=by
 simp only[aM,ku]at g
 have h:HQ e4 (fU (gA Tryz.prog 64 od 16) e4) f e s=some (v,s):=L3 (by
  unfold fU at c;cases j:e4.contains f with
  |true=>rfl
  |false=>rw[j,gh]at c;cases c) k c
 refine ep ((bA ?_).trans ((bA ?_).trans (dG (dG h))))
 ·simp only[nF,g.1,gh]
 ·simp only[fT,g.2]
theorem BK{n:Bs}{b:Bool}(d:Nat)(s:St)(a:ko [Z (.str n)]=true)(c:fU (gA Tryz.prog 64 od 16) e4 90 [Z (.str n)] s=some (B b,s)):R (d+1) 90 [Z (.str n)] s=some (B b,s):=qU d s (by decide) a c
end
noncomputable section
def f179:iA:=λkf N a0 a s=>
 ax (kf 218 [a0,a,(J 0),(J (-1))] s) λc b=>
 some (c,b)
theorem JM:iB 179 f179:=λd a0 a s=>(ak rfl Tryz.func179 (by kernel_rfl)).trans (by generalize R d=c;kernel_rfl)
def qz:gI:=λkf N v s=>
 bd (ah .lss (vq v 5) (vq v 3)) λd=>
 br d (jn (ax (kf 247 [(vq v 0),(vq v 1)] s) λb m=>
 bd (ah .lss b (J 0)) λe=>
 br e (jE 0 [(vq v 0),(vq v 4),(vq v 5)] m)
 (bd (ah .add b (vq v 2)) λf=>
 bd (bn (vq v 0) none (some f) none) λg=>
 bd (ar 1 (vq v 4) (vq v 5)) λh=>
 ax (aj 1 h g m) λ_ n=>
 bd (aV (vq v 1)) λi=>
 bd (ah .add b i) λj=>
 bd (bn (vq v 0) (some j) none none) λk=>
 bd (ah .add (vq v 5) (J 1)) λl=>
 nm [k,(vq v 1),(vq v 2),(vq v 3),(vq v 4),l] n))
 (λa c=>nm [(vq a 0),(vq a 1),(vq a 2),(vq a 3),(vq a 4),(vq a 5)] c)
 jE
 jR)
 (jE 0 [(vq v 0),(vq v 4),(vq v 5)] s)
def f218:QY:=λkf N a0 c u d s=>
 bd (ah .eql d (J 0)) λg=>
 br g (some ((Z .av),s))
 (bd (ah .eql c (Z (.str []))) λh=>
 br h (ax (kf 245 [a0,d] s) λi v=>
 some (i,v))
 (bd (ah .lss d (J 0)) λj=>
 jn (br j (ax (kf 246 [a0,c] s) λk w=>
 bd (ah .add k (J 1)) λl=>
 nm [a0,c,u,l] w)
 (nm [a0,c,u,d] s))
 (λv3 x=>bd (aV (vq v3 0)) λm=>
 bd (ah .add m (J 1)) λn=>
 bd (kz l3 (vq v3 3) [n]) λb=>
 ax (aE x (BI 1 16 [.str []] b b)) λo y=>
 bd (ah .sub b (J 1)) λp=>
 jn (jn (loops (qz kf N) N [(vq v3 0),(vq v3 1),(vq v3 2),p,o,(J 0)] y)
 (jM [.any,.any,.any])
 jZ
 jR)
 (λa e=>bd (ar 1 (vq a 1) (vq a 2)) λq=>
 ax (aj 1 q (vq a 0) e) λ_ f=>
 bd (ah .add (vq a 2) (J 1)) λr=>
 bd (aB 1 (vq a 1) none (some r) none) λt=>
 some (t,f))
 jN
 jT)
 jN
 jT))
theorem J4:Rs 218 f218:=λd a0 a b e s=>(ak rfl Tryz.func218 (by kernel_rfl)).trans (by generalize R d=c;kernel_rfl)
def f180:iA:=λkf N a0 e s=>
 ax (kf 219 [a0,e] s) λd g=>
 bd (ai d 0) λa=>
 bd (ai d 1) λb=>
 bd (ai d 2) λc=>
 bd (aD [a,b,c]) λf=>
 some (f,g)
theorem JN:iB 180 f180:=λd a0 a s=>(ak rfl Tryz.func180 (by kernel_rfl)).trans (by generalize R d=c;kernel_rfl)
def f219:iA:=λkf N a0 g s=>
 ax (kf 248 [a0,g] s) λa h=>
 bd (ah .geq a (J 0)) λb=>
 br b (bd (bn a0 none (some a) none) λc=>
 bd (aV g) λd=>
 bd (ah .add a d) λe=>
 bd (bn a0 (some e) none none) λf=>
 bd (aD [c,f,(B true)]) λi=>
 some (i,h))
 (bd (aD [a0,(Z (.str [])),(B false)]) λj=>
 some (j,h))
theorem J5:iB 219 f219:=λd a0 a s=>(ak rfl Tryz.func219 (by kernel_rfl)).trans (by generalize R d=c;kernel_rfl)
def qA:gI:=λkf N v s=>
 bd (ah .lss (vq v 3) (vq v 2)) λf=>
 br f (jn (bd (ar 1 (vq v 0) (vq v 3)) λa=>
 bd (aa a s.get) λb=>
 bd (ah .eql (vq v 1) b) λc=>
 br c (jR (vq v 3) s)
 (nm [(vq v 0),(vq v 1),(vq v 2),(vq v 3)] s))
 (λv1 e=>bd (ah .add (vq v1 3) (J 1)) λd=>
 nm [(vq v1 0),(vq v1 1),(vq v1 2),d] e)
 jE
 jR)
 (jE 0 [] s)
def f224:iA:=λkf N a0 b s=>
 bd (aG a0) λc=>
 jn (jn (loops (qA kf N) N [a0,b,c,(J 0)] s)
 (jM [])
 jZ
 jR)
 (λd a=>some ((J (-1)),a))
 jN
 jT
theorem J9:iB 224 f224:=λd a0 a s=>(ak rfl Tryz.func224 (by kernel_rfl)).trans (by generalize R d=c;kernel_rfl)
def f183:iA:=λkf N a0 a s=>
 ax (kf 224 [a0,a] s) λc b=>
 bd (ah .geq c (J 0)) λd=>
 some (d,b)
theorem JQ:iB 183 f183:=λd a0 a s=>(ak rfl Tryz.func183 (by kernel_rfl)).trans (by generalize R d=c;kernel_rfl)
def f129:iA:=λkf N a0 b s=>
 bd (ah .eql a0 (Z (.str []))) λx=>
 bd (gF x (some b)) λd=>
 bd (gF x (ah .eql d (Z (.str [])))) λe=>
 bd (pT x e) λf=>
 br f (some (a0,s))
 (bd (aV b) λg=>
 bd (ah .eql g (J 1)) λa=>
 bd (gU a (some b)) λh=>
 bd (gU a (bZ h (J 0))) λi=>
 bd (gU a (ah .lss i (J8 128))) λj=>
 bd (pF a j) λk=>
 br k (bd (bZ b (J 0)) λl=>
 ax (kf 166 [a0,l] s) λm z=>
 bd (bZ b (J 0)) λn=>
 ax (kf 165 [m,n] z) λo A=>
 some (o,A))
 (ax (kf 167 [b] s) λc B=>
 bd (ai c 0) λp=>
 bd (ai c 1) λq=>
 ax (aE B (a6 (List.replicate 256 (.bool false)))) λw C=>
 ax (aj 256 w p C) λ_ y=>
 br q (ax (kf 169 [a0,w] y) λr s6=>
 ax (kf 168 [r,w] s6) λt D=>
 some (t,D))
 (ax (kf 171 [a0,b] y) λu E=>
 ax (kf 170 [u,b] E) λv F=>
 some (v,F))))
theorem A9:iB 129 f129:=λd a0 a s=>(ak rfl Tryz.func129 (by kernel_rfl)).trans (by generalize R d=c;kernel_rfl)
def kM:gI:=λkf N v s=>
 bd (aV (vq v 0)) λh=>
 bd (ah .gtr h (J 0)) λi=>
 br i (jn (bd (bZ (vq v 0) (J 0)) λa=>
 ax (kf 212 [(vq v 1),a] s) λb e=>
 bd (gH .not b) λc=>
 br c (jE 0 [(vq v 0)] e)
 (bd (bn (vq v 0) (some (J 1)) none none) λd=>
 nm [d,(vq v 1)] e))
 (λf g=>nm [(vq f 0),(vq f 1)] g)
 jE
 jR)
 (jE 0 [(vq v 0)] s)
def f168:iA:=λkf N a0 c s=>
 jn (jn (loops (kM kf N) N [a0,c] s)
 (jM [.any])
 jZ
 jR)
 (λb a=>some ((vq b 0),a))
 jN
 jT
theorem Bf:iB 168 f168:=λd a0 a s=>(ak rfl Tryz.func168 (by kernel_rfl)).trans (by generalize R d=c;kernel_rfl)
def kN:gI:=λkf N v s=>
 bd (aV (vq v 0)) λl=>
 bd (ah .gtr l (J 0)) λm=>
 br m (jn (bd (aV (vq v 0)) λa=>
 bd (ah .sub a (J 1)) λb=>
 bd (bZ (vq v 0) b) λc=>
 ax (kf 212 [(vq v 1),c] s) λd i=>
 bd (gH .not d) λe=>
 br e (jE 0 [(vq v 0)] i)
 (bd (aV (vq v 0)) λf=>
 bd (ah .sub f (J 1)) λg=>
 bd (bn (vq v 0) none (some g) none) λh=>
 nm [h,(vq v 1)] i))
 (λj k=>nm [(vq j 0),(vq j 1)] k)
 jE
 jR)
 (jE 0 [(vq v 0)] s)
def f169:iA:=λkf N a0 c s=>
 jn (jn (loops (kN kf N) N [a0,c] s)
 (jM [.any])
 jZ
 jR)
 (λb a=>some ((vq b 0),a))
 jN
 jT
theorem Bg:iB 169 f169:=λd a0 a s=>(ak rfl Tryz.func169 (by kernel_rfl)).trans (by generalize R d=c;kernel_rfl)
def f212:iA:=λkf N a0 a s=>
 bd (ba a0) λb=>
 bd (bz 256 1 b a) λc=>
 bd (aa c s.get) λd=>
 some (d,s)
theorem Bi:iB 212 f212:=λd a0 a s=>(ak rfl Tryz.func212 (by kernel_rfl)).trans (by generalize R d=c;kernel_rfl)
def f251:F4:=λkf N a0 f g s=>
 ax (kf 185 [a0,f,g] s) λa h=>
 bd (ai a 0) λb=>
 bd (ai a 1) λc=>
 bd (xN .i c (Z .k5)) λd=>
 br d (ax (kf 139 [(Z (.str [80,97,114,115,101,73,110,116])),a0,f,g,c] h) λe l=>
 bd (aD [b,e]) λj=>
 some (j,l))
 (bd (aD [b,(Z .k5)]) λk=>
 some (k,h))
theorem Ke:My 251 f251:=λd a0 a b s=>(ak rfl Tryz.func251 (by kernel_rfl)).trans (by generalize R d=c;kernel_rfl)
def f185:F4:=λkf N a0 p q s=>
 bd (ah .eql a0 (Z (.str []))) λy=>
 br y (bd ((none:Option T)) λz=>
 bd (aD [(J 0),z]) λr1=>
 some (r1,s))
 (bd (bZ a0 (J 0)) λj=>
 jn (bd (ah .eql j (J8 43)) λA=>
 jn (br A (bd (bn a0 (some (J 1)) none none) λC=>
 nm [C,p,q,(B false)] s)
 (bd (ah .eql j (J8 45)) λD=>
 jn (br D (bd (bn a0 (some (J 1)) none none) λE=>
 nm [E,p,q,(B true)] s)
 (nm [a0,p,q,(B false)] s))
 (λn s3=>nm [(vq n 0),(vq n 1),(vq n 2),(vq n 3)] s3)
 jE
 jR))
 (λo s7=>nm [(vq o 0),(vq o 1),(vq o 2),(vq o 3)] s7)
 jZ
 jR)
 (λb w=>ax (kf 226 [(vq b 0),(vq b 1),(vq b 2)] w) λk g=>
 bd (ai k 0) λl=>
 bd (ai k 1) λh=>
 bd (xN .i h (Z .k5)) λd=>
 bd (gU d (some h)) λSn=>
 bd (gU d ((none:Option T))) λSp=>
 bd (gU d ((none:Option T))) λF=>
 bd (pF d F) λG=>
 br G (bd (aD [(J 0),h]) λr=>
 some (r,g))
 (bd (ah .eql (vq b 2) (J 0)) λH=>
 jn (br H (nm [(J 64),(vq b 3),l] g)
 (nm [(vq b 2),(vq b 3),l] g))
 (λa c=>bd (ah .sub (vq a 0) (J 1)) λI=>
 bd (az .u64 I) λK=>
 bd (ah .shl (J6 1) K) λe=>
 bd (gH .not (vq a 1)) λf=>
 bd (gU f (some (vq a 2))) λL=>
 bd (gU f (some e)) λM=>
 bd (gU f (ah .geq L M)) λO=>
 bd (pF f O) λP=>
 br P (bd (ah .sub e (J6 1)) λQ=>
 bd (az .i64 Q) λR=>
 bd ((none:Option T)) λS=>
 bd (aD [R,S]) λt=>
 some (t,c))
 (bd (gT (gd (vq a 1) true) (some (vq a 2))) λU=>
 bd (gT (gd (vq a 1) true) (some e)) λV=>
 bd (gT (gd (vq a 1) true) (ah .gtr U V)) λW=>
 bd (nv (vq a 1) W (B false)) λX=>
 br X (bd (az .i64 e) λY=>
 bd (gH .neg Y) λSj=>
 bd ((none:Option T)) λSk=>
 bd (aD [Sj,Sk]) λu=>
 some (u,c))
 (bd (az .i64 (vq a 2)) λm=>
 jn (br (vq a 1) (bd (gH .neg m) λSl=>
 nm [Sl] c)
 (nm [m] c))
 (λSm x=>bd (aD [(vq Sm 0),(Z .k5)]) λv=>
 some (v,x))
 jN
 jT)))
 jN
 jT))
 jN
 jT)
theorem JS:My 185 f185:=λd a0 a b s=>(ak rfl Tryz.func185 (by kernel_rfl)).trans (by generalize R d=c;kernel_rfl)
def tY:gI:=λkf N v s=>
 bd (ah .lss (vq v 9) (vq v 8)) λq=>
 br q (jn (bd (ar 1 (vq v 7) (vq v 9)) λr=>
 bd (aa r s.get) λc=>
 jn (bd (ah .eql c (J8 95)) λk=>
 bd (gU k (some (vq v 1))) λu=>
 bd (pF k u) λw=>
 br w (jE 4 [(vq v 0),(vq v 1),(vq v 2),(vq v 3),(vq v 4),(B true),(vq v 6),(vq v 7),(vq v 8),(vq v 9)] s)
 (bd (ah .leq (J8 48) c) λh=>
 bd (gU h (some c)) λx=>
 bd (gU h (ah .leq x (J8 57))) λy=>
 bd (pF h y) λz=>
 jn (br z (bd (ah .sub c (J8 48)) λA=>
 nm [(vq v 0),(vq v 1),(vq v 2),(vq v 3),(vq v 4),(vq v 5),(vq v 6),A,(vq v 7),(vq v 8),(vq v 9)] s)
 (ax (kf 252 [c] s) λC o=>
 bd (ah .leq (J8 97) C) λf=>
 bd (gU f (some c)) λD=>
 ax (gS (gd f true) o (kf 252 [D] o)) λE p=>
 bd (gU f (ah .leq E (J8 122))) λF=>
 bd (pF f F) λG=>
 br G (ax (kf 252 [c] p) λH Sn=>
 bd (ah .sub H (J8 97)) λI=>
 bd (ah .add I (J8 10)) λK=>
 nm [(vq v 0),(vq v 1),(vq v 2),(vq v 3),(vq v 4),(vq v 5),(vq v 6),K,(vq v 7),(vq v 8),(vq v 9)] Sn)
 (bd ((none:Option T)) λt=>
 bd (aD [(J6 0),t]) λSj=>
 jR Sj p)))
 (λb j=>nm [(vq b 0),(vq b 1),(vq b 2),(vq b 3),(vq b 4),(vq b 5),(vq b 6),(vq b 7),(vq b 8),(vq b 9),(vq b 10)] j)
 (λm b j=>if m=5 then some (.normal b,j)else some (.exit m b,j))
 jR))
 (λa e=>bd (az .u8 (vq a 0)) λL=>
 bd (ah .geq (vq a 7) L) λM=>
 br M (bd ((none:Option T)) λO=>
 bd (aD [(J6 0),O]) λSk=>
 jR Sk e)
 (bd (ah .geq (vq a 6) (vq a 3)) λP=>
 br P (bd ((none:Option T)) λQ=>
 bd (aD [(vq a 4),Q]) λSl=>
 jR Sl e)
 (bd (az .u64 (vq a 0)) λR=>
 bd (ah .mul (vq a 6) R) λl=>
 bd (az .u64 (vq a 7)) λS=>
 bd (ah .add l S) λi=>
 bd (ah .lss i l) λg=>
 bd (gF g (some i)) λU=>
 bd (gF g (some (vq a 4))) λV=>
 bd (gF g (ah .gtr U V)) λW=>
 bd (pT g W) λX=>
 br X (bd ((none:Option T)) λY=>
 bd (aD [(vq a 4),Y]) λSm=>
 jR Sm e)
 (nm [(vq a 0),(vq a 1),(vq a 2),(vq a 3),(vq a 4),(vq a 5),i,(vq a 8),(vq a 9),(vq a 10)] e))))
 (λn a e=>if n=4 then some (.normal a,e)else some (.exit n a,e))
 jR)
 (λd Sp=>bd (ah .add (vq d 9) (J 1)) λZ=>
 nm [(vq d 0),(vq d 1),(vq d 2),(vq d 3),(vq d 4),(vq d 5),(vq d 6),(vq d 7),(vq d 8),Z] Sp)
 jE
 jR)
 (jE 3 [(vq v 2),(vq v 5),(vq v 6)] s)
def f226:F4:=λkf N a0 w v s=>
 bd (ah .eql a0 (Z (.str []))) λSn=>
 br Sn (bd ((none:Option T)) λSp=>
 bd (aD [(J6 0),Sp]) λr1=>
 some (r1,s))
 (bd (ah .eql w (J 0)) λe=>
 jn (bd (ah .leq (J 2) w) λt=>
 bd (gU t (some w)) λSs=>
 bd (gU t (ah .leq Ss (J 36))) λSu=>
 bd (pF t Su) λSv=>
 jn (br Sv (nm [a0,w,v,e,a0] s)
 (bd (ah .eql w (J 0)) λSw=>
 br Sw (bd (bZ a0 (J 0)) λSx=>
 bd (ah .eql Sx (J8 48)) λSy=>
 jn (br Sy (jn (bd (aV a0) λSA=>
 bd (ah .geq SA (J 3)) λi=>
 bd (gU i (some a0)) λSB=>
 bd (gU i (bZ SB (J 1))) λSC=>
 ax (gS (gd i true) s (kf 252 [SC] s)) λSD X=>
 bd (gU i (ah .eql SD (J8 98))) λSE=>
 bd (pF i SE) λSF=>
 jn (br SF (bd (bn a0 (some (J 2)) none none) λSG=>
 nm [SG,(J 2),v,e,a0] X)
 (bd (aV a0) λSH=>
 bd (ah .geq SH (J 3)) λj=>
 bd (gU j (some a0)) λSI=>
 bd (gU j (bZ SI (J 1))) λSJ=>
 ax (gS (gd j true) X (kf 252 [SJ] X)) λSK s3=>
 bd (gU j (ah .eql SK (J8 111))) λSL=>
 bd (pF j SL) λSM=>
 jn (br SM (bd (bn a0 (some (J 2)) none none) λSN=>
 nm [SN,(J 8),v,e,a0] s3)
 (bd (aV a0) λSO=>
 bd (ah .geq SO (J 3)) λk=>
 bd (gU k (some a0)) λSP=>
 bd (gU k (bZ SP (J 1))) λSQ=>
 ax (gS (gd k true) s3 (kf 252 [SQ] s3)) λSR s4=>
 bd (gU k (ah .eql SR (J8 120))) λSS=>
 bd (pF k SS) λSU=>
 jn (br SU (bd (bn a0 (some (J 2)) none none) λSV=>
 nm [SV,(J 16),v,e,a0] s4)
 (bd (bn a0 (some (J 1)) none none) λSz=>
 nm [Sz,(J 8),v,e,a0] s4))
 (λM s6=>nm [(vq M 0),(vq M 1),(vq M 2),(vq M 3),(vq M 4)] s6)
 jE
 jR))
 (λP V=>nm [(vq P 0),(vq P 1),(vq P 2),(vq P 3),(vq P 4)] V)
 jE
 jR))
 (λd o=>nm [(vq d 0),(vq d 1),(vq d 2),(vq d 3),(vq d 4)] o)
 (λx d o=>if x=1 then some (.normal d,o)else some (.exit x d,o))
 jR)
 (λl W=>nm [(vq l 0),(vq l 1),(vq l 2),(vq l 3),(vq l 4)] W)
 jE
 jR)
 (nm [a0,(J 10),v,e,a0] s))
 (λm Y=>nm [(vq m 0),(vq m 1),(vq m 2),(vq m 3),(vq m 4)] Y)
 jE
 jR)
 (bd ((none:Option T)) λSr=>
 bd (aD [(J6 0),Sr]) λQ=>
 jR Q s)))
 (λn Sj=>nm [(vq n 0),(vq n 1),(vq n 2),(vq n 3),(vq n 4)] Sj)
 jZ
 jR)
 (λb q=>bd (ah .eql (vq b 2) (J 0)) λSW=>
 jn (br SW (nm [(vq b 0),(vq b 1),(J 64),(vq b 3),(vq b 4)] q)
 (bd (ah .lss (vq b 2) (J 0)) λu=>
 bd (gF u (some (vq b 2))) λSX=>
 bd (gF u (ah .gtr SX (J 64))) λSY=>
 bd (pT u SY) λSZ=>
 br SZ (bd ((none:Option T)) λS0=>
 bd (aD [(J6 0),S0]) λR=>
 jR R q)
 (nm [(vq b 0),(vq b 1),(vq b 2),(vq b 3),(vq b 4)] q)))
 (λa r=>jn (bd (ah .eql (vq a 1) (J 10)) λS4=>
 jn (br S4 (nm [(vq a 0),(vq a 1),(vq a 2),(vq a 3),(vq a 4),(J6 1844674407370955162)] r)
 (bd (ah .eql (vq a 1) (J 16)) λS5=>
 jn (br S5 (nm [(vq a 0),(vq a 1),(vq a 2),(vq a 3),(vq a 4),(J6 1152921504606846976)] r)
 (bd (az .u64 (vq a 1)) λS1=>
 bd (ah .quo (J6 18446744073709551615) S1) λS2=>
 bd (ah .add S2 (J6 1)) λS3=>
 nm [(vq a 0),(vq a 1),(vq a 2),(vq a 3),(vq a 4),S3] r))
 (λf Sk=>nm [(vq f 0),(vq f 1),(vq f 2),(vq f 3),(vq f 4),(vq f 5)] Sk)
 jE
 jR))
 (λc p=>nm [(vq c 0),(vq c 1),(vq c 2),(vq c 3),(vq c 4),(vq c 5)] p)
 (λy c p=>if y=2 then some (.normal c,p)else some (.exit y c,p))
 jR)
 (λg Sl=>bd (az .u64 (vq g 2)) λS6=>
 bd (ah .shl (J6 1) S6) λS7=>
 bd (ah .sub S7 (J6 1)) λS8=>
 ax (aE Sl (zg (vq g 0))) λL Sm=>
 bd (aG L) λE=>
 jn (jn (loops (tY kf N) N [(vq g 1),(vq g 3),(vq g 4),(vq g 5),S8,(B false),(J6 0),L,E,(J 0)] Sm)
 (jM [.any,.any,.any])
 (λz O A=>if z=3 then some (.normal O,A)else some (.exit z O,A))
 jR)
 (λh C=>bd (gT (gd (vq h 1) true) (some (vq h 0))) λF=>
 ax (gS (gd (vq h 1) true) C (kf 253 [F] C)) λG D=>
 bd (gT (gd (vq h 1) true) (gH .not G)) λH=>
 bd (nv (vq h 1) H (B false)) λI=>
 br I (bd ((none:Option T)) λK=>
 bd (aD [(J6 0),K]) λS=>
 some (S,D))
 (bd (aD [(vq h 2),(Z .k5)]) λU=>
 some (U,D)))
 jN
 jT)
 jN
 jT)
 jN
 jT)
 jN
 jT)
theorem Kb:My 226 f226:=λd a0 a b s=>(ak rfl Tryz.func226 (by kernel_rfl)).trans (by generalize R d=c;kernel_rfl)
end
noncomputable section
def f223:fh:=λkf N a0 s=>
 bd (aV a0) λt=>
 bd (ah .lss t (J 1)) λc=>
 bd (gF c (some a0)) λd=>
 bd (gF c (aV d)) λe=>
 bd (gF c (ah .gtr e (J 13))) λf=>
 bd (pT c f) λa=>
 bd (gF a (some a0)) λg=>
 ax (gS (gd a false) s (kf 129 [g,(Z (.str [48,49,50,51,52,53,54,55,56,57]))] s)) λh o=>
 bd (gF a (ah .neq h (Z (.str [])))) λj=>
 bd (pT a j) λk=>
 br k (bd (aD [(J 0),(B false)]) λp=>
 some (p,o))
 (ax (kf 251 [a0,(J 10),(J 64)] o) λb r=>
 bd (ai b 0) λl=>
 bd (ai b 1) λm=>
 bd (lu .i m (Z .k5)) λn=>
 bd (aD [l,n]) λq=>
 some (q,r))
theorem J7:fC 223 f223:=λd a0 s=>(ak rfl Tryz.func223 (by kernel_rfl)).trans (by generalize R d=c;kernel_rfl)
def f225:Qi:=λkf N s=>
 ax (aE s (aN 4 (aA [.str [],.str [],.str [],.str []] [(0,1,(Z (.str [114,97,119]))),(1,1,(Z (.str [53,109]))),(2,1,(Z (.str [49,104]))),(3,1,(Z (.str [49,100])))]))) λb a=>
 some (b,a)
theorem Ka:Qy 225 f225:=λd s=>(ak rfl Tryz.func225 (by kernel_rfl)).trans (by generalize R d=c;kernel_rfl)
def f182:iA:=λkf N a0 c s=>
 bd (aG c) λr=>
 bd (ah .sub r (J 1)) λt=>
 bd (ar 1 c t) λu=>
 bd (aa u s.get) λv=>
 ax (kf 223 [v] s) λk g=>
 bd (ai k 0) λh=>
 bd (ai k 1) λi=>
 jn (bd (ar 1 c (J 0)) λw=>
 bd (aa w g.get) λx=>
 bd (ah .eql x (Z (.str [107,101,101,112]))) λd=>
 bd (gU d (some c)) λy=>
 bd (gU d (aG y)) λz=>
 bd (gU d (ah .eql z (J 3))) λA=>
 bd (pF d A) λC=>
 jn (br C (ax (kf 225 [] g) λD p=>
 bd (ar 1 c (J 1)) λj=>
 bd (aa j p.get) λE=>
 ax (kf 224 [D,E] p) λl q=>
 ck ((decide (aa j g.get=aa j p.get)&&true)&&true) (bd (ah .lss l (J 0)) λa=>
 bd (gF a (some i)) λF=>
 bd (gF a (gH .not F)) λG=>
 bd (gF a (some G)) λb=>
 bd (gU b (some c)) λH=>
 bd (gU b (ar 1 H (J 2))) λI=>
 bd (gU b (aa I q.get)) λK=>
 bd (gU b (ah .neq K (Z (.str [101,118,101,114])))) λL=>
 bd (gF a (pF b L)) λM=>
 bd (pT a M) λO=>
 br O (jR (B false) q)
 (bd (ba a0) λP=>
 bd (ab 0 P) λQ=>
 bd (bz 4 1 Q l) λR=>
 ax (aj 1 R h q) λ_ s4=>
 nm [] s4)))
 (bd (ar 1 c (J 0)) λS=>
 bd (aa S g.get) λT=>
 bd (ah .eql T (Z (.str [115,101,97,108]))) λe=>
 bd (gU e (some c)) λU=>
 bd (gU e (aG U)) λV=>
 bd (gU e (ah .eql V (J 2))) λW=>
 bd (pF e W) λm=>
 bd (gU m (some i)) λX=>
 bd (pF m X) λY=>
 jn (br Y (bd (ba a0) λSj=>
 bd (ab 4 Sj) λSk=>
 ax (aj 1 Sk h g) λ_ s5=>
 nm [] s5)
 (bd (ar 1 c (J 0)) λSl=>
 bd (aa Sl g.get) λSm=>
 bd (ah .eql Sm (Z (.str [115,112,97,110]))) λf=>
 bd (gU f (some c)) λSn=>
 bd (gU f (aG Sn)) λSp=>
 bd (gU f (ah .eql Sp (J 2))) λSr=>
 bd (pF f Sr) λn=>
 bd (gU n (some i)) λSs=>
 bd (pF n Ss) λSu=>
 br Su (bd (ba a0) λSv=>
 bd (ab 5 Sv) λSw=>
 ax (aj 1 Sw h g) λ_ s6=>
 nm [] s6)
 (jR (B false) g)))
 (jM [])
 jE
 jR))
 (jM [])
 jZ
 jR)
 (λSx o=>some ((B true),o))
 jN
 jT
theorem JP:iB 182 f182:=λd a0 a s=>(ak rfl Tryz.func182 (by kernel_rfl)).trans (by generalize R d=c;kernel_rfl)
def jw:gI:=λkf N v s=>
 bd (ah .lss (vq v 2) (J 4)) λy=>
 br y (jn (bd (pz none 4 1 (vq v 1) (vq v 2)) λb=>
 bd (ah .lss b (J 0)) λc=>
 bd (gF c (some b)) λf=>
 bd (gF c (ah .gtr f (J 1099511627776))) λg=>
 bd (pT c g) λh=>
 br h (jR (B false) s)
 (bd (ah .eql (vq v 2) (J 0)) λi=>
 br i (nm [(vq v 0),(vq v 1),(vq v 2)] s)
 (bd (ah .sub (vq v 2) (J 1)) λj=>
 bd (ab 0 (vq v 0)) λk=>
 bd (bz 4 1 k j) λl=>
 bd (aa l s.get) λe=>
 bd (ah .neq b (J 0)) λa=>
 bd (gU a (some b)) λm=>
 bd (gU a (some e)) λn=>
 bd (gU a (ah .lss m n)) λo=>
 bd (gU a (some o)) λd=>
 bd (gF d (some e)) λp=>
 bd (gF d (ah .eql p (J 0))) λq=>
 bd (gU a (pT d q)) λr=>
 bd (pF a r) λt=>
 br t (jR (B false) s)
 (nm [(vq v 0),(vq v 1),(vq v 2)] s))))
 (λw x=>bd (ah .add (vq w 2) (J 1)) λu=>
 nm [(vq w 0),(vq w 1),u] x)
 jE
 jR)
 (jE 0 [(vq v 0)] s)
def f184:fh:=λkf N a0 s=>
 ax (aE s (b6 a0)) λy x=>
 bd (ab 0 y) λz=>
 bd (ay 4 z x.get) λA=>
 jn (jn (loops (jw kf N) N [y,A,(J 0)] x)
 (jM [.any])
 jZ
 jR)
 (λb a=>bd (ab 0 (vq b 0)) λg=>
 bd (bz 4 1 g (J 3)) λh=>
 bd (aa h a.get) λi=>
 bd (ah .eql i (J 0)) λc=>
 bd (gU c (ab 4 (vq b 0))) λj=>
 bd (gU c (aa j a.get)) λk=>
 bd (gU c (ah .geq k (J 1))) λl=>
 bd (pF c l) λd=>
 bd (gU d (ab 4 (vq b 0))) λm=>
 bd (gU d (aa m a.get)) λn=>
 bd (gU d (ah .leq n (J 64))) λo=>
 bd (pF d o) λe=>
 bd (gU e (ab 5 (vq b 0))) λp=>
 bd (gU e (aa p a.get)) λq=>
 bd (gU e (ah .geq q (J 1))) λr=>
 bd (pF e r) λf=>
 bd (gU f (ab 5 (vq b 0))) λt=>
 bd (gU f (aa t a.get)) λu=>
 bd (gU f (ah .leq u (J 200))) λv=>
 bd (pF f v) λw=>
 some (w,a))
 jN
 jT
theorem JR:fC 184 f184:=λd a0 s=>(ak rfl Tryz.func184 (by kernel_rfl)).trans (by generalize R d=c;kernel_rfl)
def oG:gI:=λkf N v s=>
 bd (ah .lss (vq v 10) (vq v 9)) λg=>
 br g (jn (bd (ar 1 (vq v 8) (vq v 10)) λh=>
 bd (aa h s.get) λe=>
 bd (ah .neq e (Z (.str []))) λi=>
 jn (br i (ax (aE s (aN 1 (aA [.str []] [(0,1,e)]))) λj m=>
 ax (aF 1 16 (vq v 4) j m) λk n=>
 nm [(vq v 0),(vq v 1),(vq v 2),(vq v 3),k,(vq v 5),(vq v 6),(vq v 7),(vq v 8),(vq v 9),(vq v 10)] n)
 (nm [(vq v 0),(vq v 1),(vq v 2),(vq v 3),(vq v 4),(vq v 5),(vq v 6),(vq v 7),(vq v 8),(vq v 9),(vq v 10)] s))
 (λa c=>nm [(vq a 0),(vq a 1),(vq a 2),(vq a 3),(vq a 4),(vq a 5),(vq a 6),(vq a 7),(vq a 8),(vq a 9),(vq a 10)] c)
 (λd a c=>if d=3 then some (.normal a,c)else some (.exit d a,c))
 jR)
 (λb f=>bd (ah .add (vq b 10) (J 1)) λl=>
 nm [(vq b 0),(vq b 1),(vq b 2),(vq b 3),(vq b 4),(vq b 5),(vq b 6),(vq b 7),(vq b 8),(vq b 9),l] f)
 jE
 jR)
 (jE 2 [(vq v 0),(vq v 1),(vq v 2),(vq v 3),(vq v 4),(vq v 5),(vq v 6),(vq v 7)] s)
def mu:gI:=λkf N v s=>
 bd (ah .lss (vq v 5) (vq v 4)) λw=>
 br w (jn (bd (ar 1 (vq v 3) (vq v 5)) λx=>
 bd (aa x s.get) λy=>
 ax (kf 180 [y,(Z (.str [35]))] s) λe s6=>
 bd (ai e 0) λz=>
 bd (ai e 1) λT=>
 bd (ai e 2) λU=>
 ax (kf 179 [z,(Z (.str [32]))] s6) λl S=>
 bd (aG l) λA=>
 jn (jn (loops (oG kf N) N [(vq v 0),(vq v 1),(vq v 2),(vq v 5),(Z .av),(vq v 3),(vq v 4),(vq v 5),l,A,(J 0)] S)
 (jM [.any,.any,.any,.any,.any,.any,.any,.any])
 (λf n h=>if f=2 then some (.normal n,h)else some (.exit f n,h))
 jR)
 (λa c=>bd (aG (vq a 4)) λB=>
 bd (ah .eql B (J 0)) λC=>
 br C (nm [(vq a 0),(vq a 1),(vq a 2),(vq a 5),(vq a 6),(vq a 7)] c)
 (bd (aG (vq a 4)) λD=>
 bd (ah .sub D (J 1)) λE=>
 bd (aB 1 (vq a 4) none (some E) none) λF=>
 ax (kf 181 [F,(Z (.str [32]))] c) λm q=>
 ax (kf 182 [(vq a 1),(vq a 4)] q) λG i=>
 bd (gH .not G) λd=>
 bd (gF d (some (vq a 2))) λH=>
 bd (gF d (some m)) λI=>
 ax (gS (gd d false) i (kf 183 [H,I] i)) λK j=>
 bd (pT d K) λL=>
 br L (bd (aO (aA [iz,iz,iz,iz,iz,iz] [])) λM=>
 bd (ah .add (vq a 3) (J 1)) λO=>
 ax (aj 6 (vq a 0) M j) λ_ k=>
 bd (rC (ay 6 (vq a 0) k.get) (rT (J 4) (rT O (some [])))) λo=>bd (aD o) λp=>
 jR p k)
 (ax (aE j (aN 1 (aA [.str []] [(0,1,m)]))) λP r=>
 ax (aF 1 16 (vq a 2) P r) λQ t=>
 nm [(vq a 0),(vq a 1),Q,(vq a 5),(vq a 6),(vq a 7)] t)))
 (λg a c=>if g=1 then some (.normal a,c)else some (.exit g a,c))
 jR)
 (λb u=>bd (ah .add (vq b 5) (J 1)) λR=>
 nm [(vq b 0),(vq b 1),(vq b 2),(vq b 3),(vq b 4),R] u)
 jE
 jR)
 (jE 0 [(vq v 0),(vq v 1)] s)
def f137:fh:=λkf N a0 s=>
 ax (aE s (a6 [iz,iz,iz,iz,iz,iz])) λy t=>
 ax (kf 91 [] t) λk u=>
 ax (aE u (a6 [iz,iz,iz,iz,iz,iz])) λr v=>
 ax (aj 6 r k v) λ_ w=>
 ax (kf 179 [a0,(Z (.str [10]))] w) λf x=>
 bd (aG f) λl=>
 jn (jn (loops (mu kf N) N [y,r,(Z .av),f,l,(J 0)] x)
 (jM [.any,.any])
 jZ
 jR)
 (λa c=>bd (ay 6 (vq a 1) c.get) λm=>
 ax (kf 184 [m] c) λn b=>
 bd (gH .not n) λo=>
 br o (bd (aO (aA [iz,iz,iz,iz,iz,iz] [])) λp=>
 ax (aj 6 (vq a 0) p b) λ_ d=>
 bd (rC (ay 6 (vq a 0) d.get) (rT (J 5) (rT (J 0) (some [])))) λg=>bd (aD g) λi=>
 some (i,d))
 (bd (ay 6 (vq a 1) b.get) λq=>
 ax (aj 6 (vq a 0) q b) λ_ e=>
 bd (rC (ay 6 (vq a 0) e.get) (rT (J 0) (rT (J 0) (some [])))) λh=>bd (aD h) λj=>
 some (j,e)))
 jN
 jT
theorem Jq:fC 137 f137:=λd a0 s=>(ak rfl Tryz.func137 (by kernel_rfl)).trans (by generalize R d=c;kernel_rfl)
def f91:Qi:=λkf N s=>
 ax (aE s (a6 [iz,iz,iz,iz,iz,iz])) λb e=>
 bd (aO (aA [iz,iz,iz,iz] [(0,1,(J 60)),(1,1,(J 600)),(2,1,(J 6000)),(3,1,(J 0))])) λf=>
 bd (aO (aA [iz,iz,iz,iz,iz,iz] [(0,4,f),(4,1,(J 8)),(5,1,(J 30))])) λg=>
 ax (aj 6 b g e) λ_ a=>
 bd (rC (ay 6 b a.get) (some [])) λc=>bd (aD c) λd=>
 some (d,a)
theorem NO:Qy 91 f91:=λd s=>(ak rfl Tryz.func91 (by kernel_rfl)).trans (by generalize R d=c;kernel_rfl)
end
noncomputable section
def qv:gI:=λkf N v s=>
 bd (ah .geq (vq v 0) (J6 128)) λg=>
 br g (jn (bd (az .u8 (vq v 0)) λh=>
 bd (ah .or h (J8 128)) λi=>
 ax (aE s (aN 1 (aA [.int .u8 0] [(0,1,i)]))) λa d=>
 ax (aF 1 1 (vq v 1) a d) λb e=>
 bd (ah .shr (vq v 0) (J6 7)) λc=>
 nm [c,b] e)
 (λv3 f=>nm [(vq v3 0),(vq v3 1)] f)
 jE
 jR)
 (jE 0 [(vq v 0),(vq v 1)] s)
def f159:fh:=λkf N a0 s=>
 jn (jn (loops (qv kf N) N [a0,(Z .av)] s)
 (jM [.any,.any])
 jZ
 jR)
 (λa b=>bd (az .u8 (vq a 0)) λe=>
 ax (aE b (aN 1 (aA [.int .u8 0] [(0,1,e)]))) λf c=>
 ax (aF 1 1 (vq a 1) f c) λg d=>
 some (g,d))
 jN
 jT
theorem JF:fC 159 f159:=λd a0 s=>(ak rfl Tryz.func159 (by kernel_rfl)).trans (by generalize R d=c;kernel_rfl)
def kL:gI:=λkf N v s=>
 bd (ah .lss (vq v 3) (J 10)) λh=>
 br h (jn (bd (ah .add (vq v 1) (vq v 3)) λi=>
 bd (aG (vq v 0)) λj=>
 bd (ah .geq i j) λk=>
 br k (jE 0 [(vq v 1)] s)
 (bd (ah .add (vq v 1) (vq v 3)) λl=>
 bd (ar 1 (vq v 0) l) λm=>
 bd (aa m s.get) λa=>
 bd (ah .eql (vq v 3) (J 9)) λb=>
 bd (gU b (some a)) λn=>
 bd (gU b (ah .gtr n (J8 1))) λo=>
 bd (pF b o) λp=>
 br p (jE 0 [(vq v 1)] s)
 (bd (ah .and a (J8 127)) λq=>
 bd (az .u64 q) λr=>
 bd (ah .mul (J 7) (vq v 3)) λt=>
 bd (az .u64 t) λu=>
 bd (ah .shl r u) λw=>
 bd (ah .or (vq v 2) w) λe=>
 jn (bd (ah .geq a (J8 128)) λx=>
 br x (jE 1 [(vq v 0),(vq v 1),e,(vq v 3)] s)
 (bd (ah .gtr (vq v 3) (J 0)) λc=>
 bd (gU c (some a)) λy=>
 bd (gU c (ah .eql y (J8 0))) λz=>
 bd (pF c z) λA=>
 br A (jE 0 [(vq v 1)] s)
 (nm [(vq v 1),e,(vq v 3)] s)))
 (λd f=>bd (ah .add (vq d 0) (vq d 2)) λB=>
 bd (ah .add B (J 1)) λC=>
 bd (aD [(vq d 1),C,(J 0)]) λF=>
 jR F f)
 (λE d f=>if E=1 then some (.normal d,f)else some (.exit E d,f))
 jR)))
 (λg G=>bd (ah .add (vq g 3) (J 1)) λD=>
 nm [(vq g 0),(vq g 1),(vq g 2),D] G)
 jE
 jR)
 (jE 0 [(vq v 1)] s)
def f118:iA:=λkf N a0 b s=>
 bd (ah .lss b (J 0)) λa=>
 bd (gF a (some b)) λe=>
 bd (gF a (some a0)) λf=>
 bd (gF a (aG f)) λg=>
 bd (gF a (ah .gtr e g)) λh=>
 bd (pT a h) λi=>
 br i (bd (aD [(J6 0),b,(J 1)]) λk=>
 some (k,s))
 (jn (jn (loops (kL kf N) N [a0,b,(J6 0),(J 0)] s)
 (jM [.any])
 jZ
 jR)
 (λj d=>bd (aD [(J6 0),(vq j 0),(J 2)]) λc=>
 some (c,d))
 jN
 jT)
theorem Jj:iB 118 f118:=λd a0 a s=>(ak rfl Tryz.func118 (by kernel_rfl)).trans (by generalize R d=c;kernel_rfl)
def f161:fh:=λkf N a0 s=>
 ax (kf 174 [(I .u32 1),a0] s) λb a=>
 some (b,a)
theorem JH:fC 161 f161:=λd a0 s=>(ak rfl Tryz.func161 (by kernel_rfl)).trans (by generalize R d=c;kernel_rfl)
def my:gI:=λkf N v s=>
 bd (ah .lss (vq v 3) (vq v 2)) λa=>
 br a (jn (bd (ar 1 (vq v 1) (vq v 3)) λb=>
 bd (aa b s.get) λc=>
 bd (ah .mul (vq v 0) (J6 257)) λd=>
 bd (az .u64 c) λe=>
 bd (ah .add d e) λf=>
 bd (ah .add f (J6 1)) λg=>
 bd (ah .rem g (J6 4294967291)) λh=>
 nm [h,(vq v 1),(vq v 2),(vq v 3)] s)
 (λv1 j=>bd (ah .add (vq v1 3) (J 1)) λi=>
 nm [(vq v1 0),(vq v1 1),(vq v1 2),i] j)
 jE
 jR)
 (jE 0 [(vq v 0)] s)
def f174:iA:=λkf N a0 e s=>
 bd (az .u64 a0) λf=>
 bd (ah .rem f (J6 4294967291)) λb=>
 bd (aG e) λc=>
 jn (jn (loops (my kf N) N [b,e,c,(J 0)] s)
 (jM [.any])
 jZ
 jR)
 (λg a=>bd (az .u32 (vq g 0)) λd=>
 some (d,a))
 jN
 jT
theorem Bh:iB 174 f174:=λd a0 a s=>(ak rfl Tryz.func174 (by kernel_rfl)).trans (by generalize R d=c;kernel_rfl)
def qu:gI:=λkf N v s=>
 bd (ah .lss (vq v 3) (vq v 2)) λa=>
 br a (jn (bd (ar 1 (vq v 0) (vq v 3)) λb=>
 bd (aa b s.get) λc=>
 bd (ar 1 (vq v 1) (vq v 3)) λd=>
 bd (aa d s.get) λe=>
 bd (ah .neq c e) λf=>
 br f (jR (B false) s)
 (nm [(vq v 0),(vq v 1),(vq v 2),(vq v 3)] s))
 (λv1 h=>bd (ah .add (vq v1 3) (J 1)) λg=>
 nm [(vq v1 0),(vq v1 1),(vq v1 2),g] h)
 jE
 jR)
 (jE 0 [] s)
def f130:iA:=λkf N a0 d s=>
 bd (aG a0) λe=>
 bd (aG d) λf=>
 bd (ah .neq e f) λb=>
 br b (some ((B false),s))
 (bd (aG a0) λc=>
 jn (jn (loops (qu kf N) N [a0,d,c,(J 0)] s)
 (jM [])
 jZ
 jR)
 (λg a=>some ((B true),a))
 jN
 jT)
theorem Jm:iB 130 f130:=λd a0 a s=>(ak rfl Tryz.func130 (by kernel_rfl)).trans (by generalize R d=c;kernel_rfl)
def f122:iA:=λkf N a0 a s=>
 bd (bQ a0 s.get) λb=>
 bd (bQ a s.get) λc=>
 bd (ah .eql b c) λd=>
 some (d,s)
theorem Jl:iB 122 f122:=λd a0 a s=>(ak rfl Tryz.func122 (by kernel_rfl)).trans (by generalize R d=c;kernel_rfl)
def f92:fh:=λkf N a0 s=>
 bd (lu .l a0 (Z .av)) λc=>
 br c (some ((Z .av),s))
 (ax (aE s (aN 0 (aA [] []))) λd a=>
 ax (aF 1 1 d a0 a) λe b=>
 some (e,b))
theorem NP:fC 92 f92:=λd a0 s=>(ak rfl Tryz.func92 (by kernel_rfl)).trans (by generalize R d=c;kernel_rfl)
def f173:fh:=λkf N a0 s=>
 bd (az .u8 a0) λf=>
 bd (ah .shr a0 (J6 8)) λg=>
 bd (az .u8 g) λh=>
 bd (ah .shr a0 (J6 16)) λi=>
 bd (az .u8 i) λa=>
 bd (ah .shr a0 (J6 24)) λb=>
 bd (az .u8 b) λc=>
 ax (aE s (aN 4 (aA [.int .u8 0,.int .u8 0,.int .u8 0,.int .u8 0] [(0,1,f),(1,1,h),(2,1,a),(3,1,c)]))) λd e=>
 some (d,e)
theorem JJ:fC 173 f173:=λd a0 s=>(ak rfl Tryz.func173 (by kernel_rfl)).trans (by generalize R d=c;kernel_rfl)
def tW:gI:=λkf N v s=>
 bd (ah .lss (vq v 4) (vq v 3)) λe=>
 br e (jn (bd (ar 1 (vq v 2) (vq v 4)) λf=>
 bd (aa f s.get) λg=>
 bd (aG g) λh=>
 bd (ah .add (vq v 1) h) λb=>
 bd (ah .lss b (J 0)) λi=>
 jn (br i (bd ((none:Option T)) λm=>
 bd ((none:Option T)) λn=>
 nm [(vq v 0),b,(vq v 2),(vq v 3),(vq v 4)] s)
 (nm [(vq v 0),b,(vq v 2),(vq v 3),(vq v 4)] s))
 (λa d=>nm [(vq a 0),(vq a 1),(vq a 2),(vq a 3),(vq a 4)] d)
 (λk a d=>if k=1 then some (.normal a,d)else some (.exit k a,d))
 jR)
 (λc l=>bd (ah .add (vq c 4) (J 1)) λj=>
 nm [(vq c 0),(vq c 1),(vq c 2),(vq c 3),j] l)
 jE
 jR)
 (jE 0 [(vq v 0),(vq v 1)] s)
def tX:gI:=λkf N v s=>
 bd (ah .lss (vq v 3) (vq v 2)) λd=>
 br d (jn (bd (ar 1 (vq v 1) (vq v 3)) λe=>
 bd (aa e s.get) λf=>
 ax (aF 1 1 (vq v 0) f s) λg b=>
 nm [g,(vq v 1),(vq v 2),(vq v 3)] b)
 (λa c=>bd (ah .add (vq a 3) (J 1)) λh=>
 nm [(vq a 0),(vq a 1),(vq a 2),h] c)
 jE
 jR)
 (jE 2 [(vq v 0)] s)
def f172:fh:=λkf N a0 s=>
 bd (aG a0) λh=>
 jn (jn (loops (tW kf N) N [a0,(J 0),a0,h,(J 0)] s)
 (jM [.any,.any])
 jZ
 jR)
 (λa e=>ax (kf 216 [(Z .av),(vq a 1)] e) λi f=>
 bd (aG (vq a 0)) λj=>
 jn (jn (loops (tX kf N) N [i,(vq a 0),j,(J 0)] f)
 (jM [.any])
 (λb d c=>if b=2 then some (.normal d,c)else some (.exit b d,c))
 jR)
 (λk g=>some ((vq k 0),g))
 jN
 jT)
 jN
 jT
theorem JI:fC 172 f172:=λd a0 s=>(ak rfl Tryz.func172 (by kernel_rfl)).trans (by generalize R d=c;kernel_rfl)
def f216:iA:=λkf N a0 c s=>
 bd (ah .lss c (J 0)) λo=>
 jn (br o (bd ((none:Option T)) λq=>
 bd ((none:Option T)) λr=>
 nm [a0,c] s)
 (nm [a0,c] s))
 (λa m=>bd (Av (vq a 0)) λd=>
 bd (aG (vq a 0)) λe=>
 bd (ah .sub d e) λf=>
 bd (ah .sub (vq a 1) f) λb=>
 bd (ah .gtr b (J 0)) λg=>
 jn (br g (bd (Av (vq a 0)) λh=>
 bd (aB 1 (vq a 0) none (some h) none) λi=>
 ax (nN 1 1 [.int .u8 0] i b m) λj s6=>
 bd (aG (vq a 0)) λk=>
 bd (aB 1 j none (some k) none) λl=>
 nm [l] s6)
 (nm [(vq a 0)] m))
 (λp n=>some ((vq p 0),n))
 jN
 jT)
 jN
 jT
theorem J3:iB 216 f216:=λd a0 a s=>(ak rfl Tryz.func216 (by kernel_rfl)).trans (by generalize R d=c;kernel_rfl)
end
noncomputable section
def f193:fh:=λkf N a0 s=>
 bd (ah .geq a0 (J 1)) λa=>
 bd (gU a (some a0)) λb=>
 bd (gU a (ah .leq b (J 1073741824))) λc=>
 bd (pF a c) λd=>
 some (d,s)
theorem JW:fC 193 f193:=λd a0 s=>(ak rfl Tryz.func193 (by kernel_rfl)).trans (by generalize R d=c;kernel_rfl)
def f149:fh:=λkf N a0 s=>
 ax (aE s (b6 a0)) λb c=>
 bd (ab 1 b) λt6=>
 bd (aa t6 c.get) λt7=>
 bd (ah .lss t7 (J 0)) λt=>
 bd (gF t (ab 1 b)) λu=>
 bd (gF t (aa u c.get)) λv=>
 bd (gF t (ah .gtr v (J 1073741824))) λw=>
 bd (pT t w) λx=>
 br x (some ((B false),c))
 (bd (ab 0 b) λy=>
 bd (aa y c.get) λh=>
 jn (bd (ah .eql h (J 1)) λz=>
 br z (bd (ab 7 b) λA=>
 bd (aa A c.get) λC=>
 bd (ah .eql C (Z (.str []))) λj=>
 bd (gU j (ab 2 b)) λD=>
 bd (gU j (aa D c.get)) λE=>
 ax (gS (gd j true) c (kf 193 [E] c)) λF o=>
 bd (pF j F) λk=>
 bd (gU k (ab 3 b)) λG=>
 bd (gU k (aa G o.get)) λH=>
 bd (gU k (ah .geq H (J 0))) λI=>
 bd (pF k I) λl=>
 bd (gU l (ab 3 b)) λK=>
 bd (gU l (aa K o.get)) λL=>
 bd (gU l (ah .lss L (J 4))) λM=>
 bd (pF l M) λm=>
 bd (gU m (ab 4 b)) λO=>
 bd (gU m (aa O o.get)) λP=>
 bd (gU m (ah .geq P (J 0))) λQ=>
 bd (pF m Q) λf=>
 bd (gU f (ab 4 b)) λR=>
 bd (gU f (aa R o.get)) λS=>
 bd (gU f (ab 5 b)) λT=>
 bd (gU f (aa T o.get)) λU=>
 bd (gU f (ah .lss S U)) λV=>
 bd (pF f V) λn=>
 bd (gU n (ab 5 b)) λW=>
 bd (gU n (aa W o.get)) λX=>
 bd (gU n (ah .leq X (J 1099511627776))) λY=>
 bd (pF n Y) λSj=>
 jR Sj o)
 (bd (ah .eql h (J 2)) λSk=>
 br Sk (bd (ab 2 b) λSl=>
 bd (aa Sl c.get) λSm=>
 ax (kf 193 [Sm] c) λd r=>
 bd (gU d (ay 8 b r.get)) λSn=>
 bd (gU d (ab 1 b)) λSp=>
 bd (gU d (aa Sp r.get)) λSr=>
 bd (gU d (ab 2 b)) λSs=>
 bd (gU d (aa Ss r.get)) λSu=>
 bd (gU d (aO (aA [iz,iz,iz,iz,iz,iz,.int .u32 0,.str []] [(0,1,(J 2)),(1,1,Sr),(2,1,Su)]))) λSv=>
 bd (gU d (lu (.a 8 [(0,.i),(1,.i),(2,.i),(3,.i),(4,.i),(5,.i),(6,.i),(7,.s)]) Sn Sv)) λSw=>
 bd (pF d Sw) λSx=>
 jR Sx r)
 (bd (ah .eql h (J 3)) λSy=>
 br Sy (bd (ab 1 b) λSz=>
 bd (aa Sz c.get) λSA=>
 bd (ah .gtr SA (J 0)) λg=>
 bd (gU g (ay 8 b c.get)) λSB=>
 bd (gU g (ab 1 b)) λSC=>
 bd (gU g (aa SC c.get)) λSD=>
 bd (gU g (aO (aA [iz,iz,iz,iz,iz,iz,.int .u32 0,.str []] [(0,1,(J 3)),(1,1,SD)]))) λSE=>
 bd (gU g (lu (.a 8 [(0,.i),(1,.i),(2,.i),(3,.i),(4,.i),(5,.i),(6,.i),(7,.s)]) SB SE)) λSF=>
 bd (pF g SF) λSG=>
 jR SG c)
 (bd (ah .eql h (J 4)) λSH=>
 br SH (bd (ab 7 b) λSI=>
 bd (aa SI c.get) λSJ=>
 bd (aV SJ) λSK=>
 bd (ah .gtr SK (J 300)) λe=>
 bd (gF e (ay 8 b c.get)) λSL=>
 bd (gF e (ab 1 b)) λSM=>
 bd (gF e (aa SM c.get)) λSN=>
 bd (gF e (ab 7 b)) λSO=>
 bd (gF e (aa SO c.get)) λSP=>
 bd (gF e (aO (aA [iz,iz,iz,iz,iz,iz,.int .u32 0,.str []] [(0,1,(J 4)),(1,1,SN),(7,1,SP)]))) λSQ=>
 bd (gF e (xN (.a 8 [(0,.i),(1,.i),(2,.i),(3,.i),(4,.i),(5,.i),(6,.i),(7,.s)]) SL SQ)) λSR=>
 bd (pT e SR) λSS=>
 br SS (jR (B false) c)
 (bd (ab 7 b) λSU=>
 bd (aa SU c.get) λSV=>
 ax (kf 137 [SV] c) λp s4=>
 bd (ai p 0) λSW=>
 bd (ai p 1) λSX=>
 bd (ai p 2) λSY=>
 ax (aE s4 (a6 [iz,iz,iz,iz,iz,iz])) λt3 s5=>
 ax (aj 6 t3 SW s5) λ_ s6=>
 bd (ah .eql SX (J 0)) λq=>
 jR q s6))
 (nm [] c)))))
 (λv7 s8=>some ((B false),s8))
 jN
 jT)
theorem Jy:fC 149 f149:=λd a0 s=>(ak rfl Tryz.func149 (by kernel_rfl)).trans (by generalize R d=c;kernel_rfl)
def ju:gI:=λkf N v s=>
 bd (ah .lss (vq v 4) (vq v 3)) λe=>
 br e (jn (bd (ar 1 (vq v 2) (vq v 4)) λf=>
 bd (aa f s.get) λg=>
 ax (kf 159 [g] s) λh b=>
 ax (aF 1 1 (vq v 1) h b) λi c=>
 nm [(vq v 0),i,(vq v 2),(vq v 3),(vq v 4)] c)
 (λa d=>bd (ah .add (vq a 4) (J 1)) λj=>
 nm [(vq a 0),(vq a 1),(vq a 2),(vq a 3),j] d)
 jE
 jR)
 (jE 1 [(vq v 0),(vq v 1)] s)
def f133:fh:=λkf N a0 s=>
 ax (aE s (b6 a0)) λa s1=>
 bd (ay 8 a s1.get) λt8=>
 ax (kf 149 [t8] s1) λt9 j=>
 bd (gH .not t9) λw=>
 br w (bd (aD [(Z .av),(J 1)]) λr3=>
 some (r3,j))
 (bd (ab 0 a) λd=>
 bd (aa d j.get) λx=>
 bd (az .u8 x) λm=>
 ax (aE j (aN 1 (aA [.int .u8 0] [(0,1,m)]))) λy s4=>
 bd (ab 1 a) λz=>
 bd (aa z s4.get) λA=>
 bd (az .u64 A) λB=>
 ax (kf 159 [B] s4) λC s5=>
 ax (aF 1 1 y C s5) λb s6=>
 ck ((decide (aa d (cl 8 s5.get (wC 3 j.size (aN 1 (aA [.int .u8 0] [(0,1,m)])) []))=aa d j.get)&&true)&&true) (bd (ab 0 a) λD=>
 bd (aa D s6.get) λe=>
 jn (bd (ah .eql e (J 1)) λE=>
 jn (br E (bd (ab 2 a) λF=>
 bd (aa F s6.get) λG=>
 bd (az .u64 G) λH=>
 bd (ab 3 a) λI=>
 bd (aa I s6.get) λK=>
 bd (az .u64 K) λL=>
 bd (ab 4 a) λM=>
 bd (aa M s6.get) λO=>
 bd (az .u64 O) λP=>
 bd (ab 5 a) λQ=>
 bd (aa Q s6.get) λR=>
 bd (az .u64 R) λS=>
 bd (ab 6 a) λT=>
 bd (aa T s6.get) λU=>
 bd (az .u64 U) λV=>
 ax (aE s6 (aN 5 (aA [.int .u64 0,.int .u64 0,.int .u64 0,.int .u64 0,.int .u64 0] [(0,1,H),(1,1,L),(2,1,P),(3,1,S),(4,1,V)]))) λW s7=>
 nm [a,b,W] s7)
 (bd (ah .eql e (J 2)) λX=>
 jn (br X (bd (ab 2 a) λY=>
 bd (aa Y s6.get) λSj=>
 bd (az .u64 Sj) λSk=>
 ax (aE s6 (aN 1 (aA [.int .u64 0] [(0,1,Sk)]))) λSl s8=>
 nm [a,b,Sl] s8)
 (bd (ah .eql e (J 4)) λSm=>
 jn (br Sm (bd (ab 7 a) λSn=>
 bd (aa Sn s6.get) λSp=>
 bd (aV Sp) λSr=>
 bd (az .u64 Sr) λSs=>
 ax (aE s6 (aN 1 (aA [.int .u64 0] [(0,1,Ss)]))) λSu s9=>
 nm [a,b,Su] s9)
 (nm [a,b,(Z .av)] s6))
 (λf q=>nm [(vq f 0),(vq f 1),(vq f 2)] q)
 jE
 jR))
 (λg r=>nm [(vq g 0),(vq g 1),(vq g 2)] r)
 jE
 jR))
 (λh t=>nm [(vq h 0),(vq h 1),(vq h 2)] t)
 jZ
 jR)
 (λc u=>bd (aG (vq c 2)) λSv=>
 jn (jn (loops (ju kf N) N [(vq c 0),(vq c 1),(vq c 2),Sv,(J 0)] u)
 (jM [.any,.any])
 (λi n k=>if i=1 then some (.normal n,k)else some (.exit i n,k))
 jR)
 (λo l=>bd (ab 7 (vq o 0)) λSw=>
 bd (aa Sw l.get) λSx=>
 ax (aF 1 1 (vq o 1) Sx l) λSy v=>
 bd (aD [Sy,(J 0)]) λp=>
 some (p,v))
 jN
 jT)
 jN
 jT))
theorem Ba:fC 133 f133:=λd a0 s=>(ak rfl Tryz.func133 (by kernel_rfl)).trans (by generalize R d=c;kernel_rfl)
def f94:fh:=λkf N a0 s=>
 ax (aE s (b6 a0)) λh s1=>
 ax (aE s1 (a6 [iz,iz,iz,iz,iz,iz,.int .u32 0,.str []])) λn U=>
 bd (aa h U.get) λSn=>
 bd (aG Sn) λSp=>
 bd (ah .eql Sp (J 0)) λSr=>
 br Sr (bd (aO (aA [iz,iz,iz,iz,iz,iz,.int .u32 0,.str []] [])) λSs=>
 ax (aj 8 n Ss U) λ_ s3=>
 bd (rC (ay 8 n s3.get) (rT (J 2) (some []))) λl4=>bd (aD l4) λr5=>
 some (r5,s3))
 (ax (aE U (a6 [iz])) λz s6=>
 ax (aE s6 (a6 [.bool false])) λr s7=>
 ax (aj 1 z (J 1) s7) λ_ s8=>
 ax (aj 1 r (B false) s8) λ_ y=>
 bd (tJ 132 [h,z,r] []) λb=>
 bd (aa h y.get) λSu=>
 bd (ar 1 Su (J 0)) λp=>
 bd (aa p y.get) λSv=>
 bd (az .i64 Sv) λSw=>
 ax (dyn Tryz.prog kf b [(J6 1073741824)] y) λSx f=>
 bd (aO (aA [iz,iz,iz,iz,iz,iz,.int .u32 0,.str []] [(0,1,Sw),(1,1,Sx)])) λSy=>
 ax (aE f (a6 [iz,iz,iz,iz,iz,iz,.int .u32 0,.str []])) λe L=>
 ax (aj 8 e Sy L) λ_ g=>
 ck ((decide (aa h (tQ (f.get) f.size (.K true [iz,iz,iz,iz,iz,iz,.int .u32 0,.str []]))=aa h y.get)&&true)&&((decide (aa p (tQ (f.get) f.size (.K true [iz,iz,iz,iz,iz,iz,.int .u32 0,.str []]))=aa p y.get)&&true)&&true)) (bd (ab 0 e) λSz=>
 bd (aa Sz g.get) λq=>
 jn (bd (ah .eql q (J 1)) λSA=>
 jn (br SA (ax (dyn Tryz.prog kf b [(J6 1073741824)] g) λSB M=>
 ax (dyn Tryz.prog kf b [(J6 4)] M) λSC O=>
 bd (ab 2 e) λSD=>
 ax (aj 1 SD SB O) λ_ P=>
 bd (ab 3 e) λSE=>
 ax (aj 1 SE SC P) λ_ Q=>
 ax (dyn Tryz.prog kf b [(J6 1099511627776)] Q) λSF R=>
 ax (dyn Tryz.prog kf b [(J6 1099511627776)] R) λSG S=>
 bd (ab 4 e) λSH=>
 ax (aj 1 SH SF S) λ_ T=>
 bd (ab 5 e) λSI=>
 ax (aj 1 SI SG T) λ_ V=>
 ax (dyn Tryz.prog kf b [(J6 4294967295)] V) λSJ W=>
 bd (az .u32 SJ) λSK=>
 bd (ab 6 e) λSL=>
 ax (aj 1 SL SK W) λ_ X=>
 nm [h,n,r,e] X)
 (bd (ah .eql q (J 2)) λSM=>
 jn (br SM (ax (dyn Tryz.prog kf b [(J6 1073741824)] g) λSN Y=>
 bd (ab 2 e) λSO=>
 ax (aj 1 SO SN Y) λ_ Z=>
 nm [h,n,r,e] Z)
 (bd (ah .eql q (J 4)) λSP=>
 jn (br SP (ax (dyn Tryz.prog kf b [(J6 300)] g) λA a=>
 bd (aa r a.get) λd=>
 bd (gF d (some A)) λSQ=>
 bd (gF d (aa h a.get)) λSR=>
 bd (gF d (aG SR)) λSS=>
 bd (gF d (aa z a.get)) λSU=>
 bd (gF d (ah .sub SS SU)) λSV=>
 bd (gF d (ah .gtr SQ SV)) λSW=>
 bd (pT d SW) λSX=>
 br SX (bd (aO (aA [iz,iz,iz,iz,iz,iz,.int .u32 0,.str []] [])) λSY=>
 ax (aj 8 n SY a) λ_ u=>
 bd (rC (ay 8 n u.get) (rT (J 2) (some []))) λD=>bd (aD D) λG=>
 jR G u)
 (bd (aa h a.get) λSZ=>
 bd (aa z a.get) λS0=>
 bd (aa z a.get) λS1=>
 bd (ah .add S1 A) λS2=>
 bd (aB 1 SZ (some S0) (some S2) none) λS3=>
 bd (bQ S3 a.get) λS4=>
 bd (ab 7 e) λS5=>
 ax (aj 1 S5 S4 a) λ_ Sj=>
 nm [h,n,r,e] Sj))
 (nm [h,n,r,e] g))
 (λk Sk=>nm [(vq k 0),(vq k 1),(vq k 2),(vq k 3)] Sk)
 jE
 jR))
 (λl Sl=>nm [(vq l 0),(vq l 1),(vq l 2),(vq l 3)] Sl)
 jE
 jR))
 (λm Sm=>nm [(vq m 0),(vq m 1),(vq m 2),(vq m 3)] Sm)
 jZ
 jR)
 (λc v=>bd (ay 8 (vq c 3) v.get) λS6=>
 ax (kf 133 [S6] v) λC j=>
 bd (ai C 0) λS7=>
 bd (ai C 1) λS8=>
 bd (aa (vq c 2) j.get) λt=>
 bd (gF t (some S8)) λS9=>
 bd (gF t (ah .neq S9 (J 0))) λTa=>
 bd (pT t Ta) λi=>
 bd (gF i (some S7)) λTb=>
 bd (gF i (aa (vq c 0) j.get)) λTc=>
 ax (gS (gd i false) j (kf 122 [Tb,Tc] j)) λTd o=>
 bd (gF i (gH .not Td)) λTe=>
 bd (pT i Te) λTf=>
 br Tf (bd (aO (aA [iz,iz,iz,iz,iz,iz,.int .u32 0,.str []] [])) λTg=>
 ax (aj 8 (vq c 1) Tg o) λ_ w=>
 bd (rC (ay 8 (vq c 1) w.get) (rT (J 2) (some []))) λE=>bd (aD E) λH=>
 some (H,w))
 (bd (ay 8 (vq c 3) o.get) λTh=>
 ax (aj 8 (vq c 1) Th o) λ_ x=>
 bd (rC (ay 8 (vq c 1) x.get) (rT (J 0) (some []))) λF=>bd (aD F) λI=>
 some (I,x)))
 jN
 jT))
theorem NR:fC 94 f94:=λd a0 s=>(ak rfl Tryz.func94 (by kernel_rfl)).trans (by generalize R d=c;kernel_rfl)
def f132:QY:=λkf N a0 u q r s=>
 bd (aa u s.get) λe=>
 bd (aa q s.get) λf=>
 ax (kf 118 [e,f] s) λb t=>
 bd (ai b 0) λd=>
 bd (ai b 1) λg=>
 bd (ai b 2) λh=>
 bd (aa r t.get) λc=>
 bd (gF c (some h)) λi=>
 bd (gF c (ah .neq i (J 0))) λj=>
 bd (pT c j) λa=>
 bd (gF a (some d)) λk=>
 bd (gF a (some a0)) λl=>
 bd (gF a (ah .gtr k l)) λm=>
 bd (pT a m) λn=>
 ax (aj 1 r n t) λ_ v=>
 ax (aj 1 q g v) λ_ w=>
 bd (kz l3 d [a0]) λo=>
 bd (az .i64 o) λp=>
 some (p,w)
theorem Jo:Rs 132 f132:=λd a0 a b e s=>(ak rfl Tryz.func132 (by kernel_rfl)).trans (by generalize R d=c;kernel_rfl)
def f41:Qi:=λkf N s=>
 ax (aE s (Oh)) λd a=>
 ax (kf 91 [] a) λe b=>
 bd (aO (aA [.av,.pb,iz,iz,iz,iz,iz,iz,iz,iz] [(1,1,d),(2,6,e)])) λf=>
 ax (aE b (b6 f)) λg c=>
 some (g,c)
theorem Ni:Qy 41 f41:=λd s=>(ak rfl Tryz.func41 (by kernel_rfl)).trans (by generalize R d=c;kernel_rfl)
def f134:iA:=λkf N a0 d s=>
 bd (ba a0) λg=>
 bd (ab 0 g) λh=>
 bd (aa h s.get) λi=>
 ax (kf 175 [i,d,(Z (.jX 176 []))] s) λa f=>
 bd (ai a 0) λb=>
 bd (ai a 1) λc=>
 bd (aD [b,c]) λe=>
 some (e,f)
theorem Jp:iB 134 f134:=λd a0 a s=>(ak rfl Tryz.func134 (by kernel_rfl)).trans (by generalize R d=c;kernel_rfl)
def f110:iA:=λkf N a0 L s=>
 ax (aE s (b6 L)) λd I=>
 bd (ab 2 d) λP=>
 bd (aa P I.get) λf=>
 ax (kf 134 [a0,f] I) λe K=>
 bd (ai e 0) λO=>
 bd (ai e 1) λg=>
 jn (bd (ay 8 d K.get) λh=>
 ax (kf 149 [h] K) λj b=>
 bd (gH .not j) λk=>
 br k (jR (J 1) b)
 (bd (ab 0 d) λl=>
 bd (aa l b.get) λm=>
 bd (ah .eql m (J 1)) λa=>
 bd (gU a (some a0)) λn=>
 bd (gU a (ba n)) λo=>
 bd (gU a (ab 1 o)) λp=>
 bd (gU a (aa p b.get)) λq=>
 bd (gU a (ab 2 d)) λr=>
 bd (gU a (aa r b.get)) λt=>
 bd (gU a (Go.Abs.F.look .i false (.s (.bool false)) q t b.get)) λu=>
 bd (pF a u) λv=>
 br v (jR (J 7) b)
 (bd (ab 0 d) λw=>
 bd (aa w b.get) λx=>
 bd (ah .eql x (J 2)) λc=>
 bd (gU c (some g)) λy=>
 bd (gU c (gH .not y)) λz=>
 bd (pF c z) λA=>
 br A (jR (J 9) b)
 (bd (ab 1 d) λB=>
 bd (aa B b.get) λC=>
 bd (ba a0) λD=>
 bd (ab 9 D) λE=>
 bd (aa E b.get) λG=>
 bd (ah .lss C G) λH=>
 br H (jR (J 12) b)
 (nm [] b)))))
 (λv4 M=>some ((J 0),M))
 jN
 jT
theorem Jd:iB 110 f110:=λd a0 a s=>(ak rfl Tryz.func110 (by kernel_rfl)).trans (by generalize R d=c;kernel_rfl)
def f96:iA:=λkf N a0 SN s=>
 ax (aE s (b6 SN)) λa s1=>
 bd (ay 8 a s1.get) λt9=>
 ax (kf 110 [a0,t9] s1) λh v=>
 bd (ah .neq h (J 0)) λz=>
 br z (some (h,v))
 (bd (ab 2 a) λA=>
 bd (aa A v.get) λC=>
 ax (kf 134 [a0,C] v) λj b=>
 bd (ai j 0) λe=>
 bd (ai j 1) λSO=>
 bd (ab 0 a) λD=>
 bd (aa D b.get) λc=>
 jn (bd (ah .eql c (J 1)) λE=>
 jn (br E (bd (ba a0) λF=>
 bd (ab 1 F) λG=>
 bd (aa G b.get) λH=>
 bd (ab 2 a) λI=>
 bd (aa I b.get) λK=>
 ax (G3 .i H K (B true) b) λ_ d=>
 bd (ba a0) λL=>
 bd (ab 0 L) λM=>
 bd (aa M d.get) λO=>
 bd (ab 2 a) λP=>
 bd (aa P d.get) λQ=>
 bd (ab 3 a) λR=>
 bd (aa R d.get) λS=>
 bd (ab 4 a) λT=>
 bd (aa T d.get) λU=>
 bd (ab 5 a) λV=>
 bd (aa V d.get) λW=>
 bd (ab 6 a) λX=>
 bd (aa X d.get) λY=>
 bd (aO (aA [iz,iz,iz,iz,.int .u32 0] [(0,1,Q),(1,1,S),(2,1,U),(3,1,W),(4,1,Y)])) λZ=>
 ax (aE d (aN 1 (aA [iz,iz,iz,iz,.int .u32 0] [(0,5,Z)]))) λSj s5=>
 ax (kf 135 [O,e,Sj] s5) λSk s6=>
 bd (ba a0) λSl=>
 bd (ab 0 Sl) λSm=>
 ax (aj 1 Sm Sk s6) λ_ s7=>
 nm [a0,a] s7)
 (bd (ah .eql c (J 2)) λSn=>
 jn (br Sn (bd (ba a0) λSp=>
 bd (ab 0 Sp) λSr=>
 bd (aa Sr b.get) λSs=>
 bd (ah .add e (J 1)) λSu=>
 ax (kf 136 [Ss,e,Su] b) λSv s8=>
 bd (ba a0) λSw=>
 bd (ab 0 Sw) λSx=>
 ax (aj 1 Sx Sv s8) λ_ s9=>
 nm [a0,a] s9)
 (bd (ah .eql c (J 3)) λSy=>
 jn (br Sy (bd (ab 1 a) λSz=>
 bd (aa Sz b.get) λSA=>
 bd (ba a0) λSB=>
 bd (ab 8 SB) λSC=>
 ax (aj 1 SC SA b) λ_ p=>
 nm [a0,a] p)
 (bd (ah .eql c (J 4)) λSD=>
 jn (br SD (bd (ab 7 a) λSE=>
 bd (aa SE b.get) λSF=>
 ax (kf 137 [SF] b) λf q=>
 bd (ai f 0) λSG=>
 bd (ai f 1) λSP=>
 bd (ai f 2) λSQ=>
 bd (ba a0) λSH=>
 bd (ab 2 SH) λSI=>
 ax (aj 6 SI SG q) λ_ r=>
 nm [a0,a] r)
 (nm [a0,a] b))
 (λk t=>nm [(vq k 0),(vq k 1)] t)
 jE
 jR))
 (λl u=>nm [(vq l 0),(vq l 1)] u)
 jE
 jR))
 (λm w=>nm [(vq m 0),(vq m 1)] w)
 jE
 jR))
 (λn x=>nm [(vq n 0),(vq n 1)] x)
 jZ
 jR)
 (λo g=>bd (ab 1 (vq o 1)) λSJ=>
 bd (aa SJ g.get) λSK=>
 bd (ba (vq o 0)) λSL=>
 bd (ab 9 SL) λSM=>
 ax (aj 1 SM SK g) λ_ y=>
 some ((J 0),y))
 jN
 jT)
theorem EO:iB 96 f96:=λd a0 a s=>(ak rfl Tryz.func96 (by kernel_rfl)).trans (by generalize R d=c;kernel_rfl)
def f48:fh:=λkf N a0 s=>
 bd (ba a0) λb=>
 bd (ab 0 b) λc=>
 bd (aa c s.get) λd=>
 ax (kf 97 [d] s) λe a=>
 some (e,a)
theorem Nl:fC 48 f48:=λd a0 s=>(ak rfl Tryz.func48 (by kernel_rfl)).trans (by generalize R d=c;kernel_rfl)
def f84:fh:=λkf N a0 s=>
 ax (aE s (a6 [iz,iz,iz,iz,iz,iz])) λc a=>
 bd (ba a0) λf=>
 bd (ab 2 f) λg=>
 bd (ay 6 g a.get) λh=>
 ax (aj 6 c h a) λ_ b=>
 bd (rC (ay 6 c b.get) (some [])) λd=>bd (aD d) λe=>
 some (e,b)
theorem NL:fC 84 f84:=λd a0 s=>(ak rfl Tryz.func84 (by kernel_rfl)).trans (by generalize R d=c;kernel_rfl)
def f176:iA:=λkf N a0 b s=>
 ax (aE s (b6 a0)) λc a=>
 bd (ab 0 c) λd=>
 bd (aa d a.get) λe=>
 bd (ah .sub e b) λf=>
 some (f,a)
theorem JL:iB 176 f176:=λd a0 a s=>(ak rfl Tryz.func176 (by kernel_rfl)).trans (by generalize R d=c;kernel_rfl)
end
noncomputable section
def f97:fh:=λkf N a0 s=>
 bd (lu .l a0 (Z .av)) λc=>
 br c (some ((Z .av),s))
 (ax (aE s (aN 0 (aA [] []))) λd a=>
 ax (aF 5 40 d a0 a) λe b=>
 some (e,b))
theorem NT:fC 97 f97:=λd a0 s=>(ak rfl Tryz.func97 (by kernel_rfl)).trans (by generalize R d=c;kernel_rfl)
def qw:gI:=λkf N v s=>
 bd (ah .lss (vq v 4) (vq v 5)) λe=>
 br e (jn (bd (ah .add (vq v 4) (vq v 5)) λf=>
 bd (az .u64 f) λg=>
 bd (ah .shr g (J6 1)) λh=>
 bd (az .i64 h) λb=>
 bd (ar 5 (vq v 0) b) λi=>
 bd (ay 5 i s.get) λj=>
 ax (dyn Tryz.prog kf (vq v 2) [j,(vq v 1)] s) λk o=>
 bd (ah .lss k (J 0)) λl=>
 jn (br l (bd (ah .add b (J 1)) λm=>
 nm [(vq v 0),(vq v 1),(vq v 2),(vq v 3),m,(vq v 5)] o)
 (nm [(vq v 0),(vq v 1),(vq v 2),(vq v 3),(vq v 4),b] o))
 (λa d=>nm [(vq a 0),(vq a 1),(vq a 2),(vq a 3),(vq a 4),(vq a 5)] d)
 (λn a d=>if n=1 then some (.normal a,d)else some (.exit n a,d))
 jR)
 (λc p=>nm [(vq c 0),(vq c 1),(vq c 2),(vq c 3),(vq c 4),(vq c 5)] p)
 jE
 jR)
 (jE 0 [(vq v 0),(vq v 1),(vq v 2),(vq v 3),(vq v 4)] s)
def f175:F4:=λkf N a0 p q s=>
 bd (aG a0) λd=>
 jn (jn (loops (qw kf N) N [a0,p,q,d,(J 0),d] s)
 (jM [.any,.any,.any,.any,.any])
 jZ
 jR)
 (λb c=>bd (ah .lss (vq b 4) (vq b 3)) λa=>
 bd (gU a (some (vq b 2))) λg=>
 bd (gU a (some (vq b 0))) λh=>
 bd (gU a (some (vq b 4))) λi=>
 bd (gU a (ar 5 h i)) λj=>
 bd (gU a (ay 5 j c.get)) λk=>
 bd (gU a (some (vq b 1))) λl=>
 ax (gS (gd a true) c (dyn Tryz.prog kf g [k,l] c)) λm f=>
 bd (gU a (ah .eql m (J 0))) λn=>
 bd (pF a n) λo=>
 bd (aD [(vq b 4),o]) λe=>
 some (e,f))
 jN
 jT
theorem JK:My 175 f175:=λd a0 a b s=>(ak rfl Tryz.func175 (by kernel_rfl)).trans (by generalize R d=c;kernel_rfl)
def f135:F4:=λkf N a0 c f s=>
 bd (aB 5 a0 (some c) none none) λP=>
 bd (aG f) λa=>
 bd (ah .eql a (J 0)) λg=>
 br g (some (a0,s))
 (bd (aG a0) λd=>
 bd (ah .eql c d) λh=>
 br h (ax (aF 5 40 a0 f s) λi G=>
 some (i,G))
 (bd (ah .add d a) λj=>
 bd (Av a0) λk=>
 bd (ah .gtr j k) λl=>
 br l (bd (aB 5 a0 none (some c) none) λm=>
 bd (ah .add d a) λn=>
 bd (ah .sub n c) λo=>
 ax (nN 5 40 [iz,iz,iz,iz,.int .u32 0] m o s) λe H=>
 bd (aB 5 e (some c) none none) λp=>
 ax (jc 5 p f H) λQ I=>
 bd (ah .add c a) λq=>
 bd (aB 5 e (some q) none none) λr=>
 bd (aB 5 a0 (some c) none none) λt=>
 ax (jc 5 r t I) λR K=>
 some (e,K))
 (bd (ah .add d a) λu=>
 bd (aB 5 a0 none (some u) none) λb=>
 bd (ah .add c a) λv=>
 bd (aB 5 b (some v) none none) λw=>
 ax (wz Tryz.prog 177 [f,w] s) λx F=>
 bd (gH .not x) λy=>
 br y (bd (ah .add c a) λz=>
 bd (aB 5 b (some z) none none) λA=>
 bd (aB 5 b (some c) none none) λB=>
 ax (jc 5 A B F) λS s6=>
 bd (aB 5 b (some c) none none) λC=>
 ax (jc 5 C f s6) λT L=>
 some (b,L))
 (bd (aB 5 b (some d) none none) λD=>
 ax (jc 5 D f F) λU M=>
 bd (aB 5 b (some c) none none) λE=>
 ax (kf 178 [E,a] M) λV O=>
 some (b,O)))))
theorem EE(kf:bc)(N:Nat)(a0 a b:T)(s:St):sN Tryz.prog kf N Tryz.f135 [a0,a,b] s=f135 kf N a0 a b s:=by kernel_rfl
def f136:F4:=λkf N a0 b c s=>
 bd (aG a0) λd=>
 bd (aB 5 a0 (some b) (some c) (some d)) λm=>
 bd (ah .eql b c) λe=>
 br e (some (a0,s))
 (bd (aG a0) λf=>
 bd (aB 5 a0 none (some b) none) λg=>
 bd (aB 5 a0 (some c) none none) λh=>
 ax (aF 5 40 g h s) λa k=>
 bd (aG a) λi=>
 bd (aB 5 a (some i) (some f) none) λj=>
 ax (nM 5 [iz,iz,iz,iz,.int .u32 0] j k) λ_ l=>
 some (a,l))
theorem M0(kf:bc)(N:Nat)(a0 a b:T)(s:St):sN Tryz.prog kf N Tryz.f136 [a0,a,b] s=f136 kf N a0 a b s:=by kernel_rfl
end
noncomputable section
def f131:fh:=λkf N a0 s=>
 bd (aG a0) λl=>
 bd (az .u64 l) λm=>
 ax (kf 159 [m] s) λf g=>
 ax (kf 161 [f] g) λa h=>
 ax (kf 174 [a,a0] h) λb i=>
 ax (kf 173 [b] i) λc j=>
 ax (aE j (aN 3 (aA [.av,.av,.av] [(0,1,f),(1,1,c),(2,1,a0)]))) λd k=>
 ax (kf 172 [d] k) λe s6=>
 some (e,s6)
theorem Jn:fC 131 f131:=λd a0 s=>(ak rfl Tryz.func131 (by kernel_rfl)).trans (by generalize R d=c;kernel_rfl)
def f93:iA:=λkf N a0 h s=>
 ax (kf 118 [a0,h] s) λd G=>
 bd (ai d 0) λf=>
 bd (ai d 1) λc=>
 bd (ai d 2) λi=>
 bd (ah .neq i (J 0)) λb=>
 bd (gF b (some a0)) λj=>
 bd (gF b (aG j)) λk=>
 bd (gF b (some c)) λl=>
 bd (gF b (ah .sub k l)) λm=>
 bd (gF b (ah .lss m (J 4))) λn=>
 bd (pT b n) λa=>
 bd (gF a (some f)) λo=>
 bd (gF a (some a0)) λp=>
 bd (gF a (aG p)) λq=>
 bd (gF a (some c)) λr=>
 bd (gF a (ah .sub q r)) λt=>
 bd (gF a (ah .sub t (J 4))) λu=>
 bd (gF a (az .u64 u)) λv=>
 bd (gF a (ah .gtr o v)) λw=>
 bd (pT a w) λx=>
 br x (bd (aD [(Z .av),h,(B false)]) λI=>
 some (I,G))
 (bd (ah .add c (J 4)) λy=>
 bd (az .i64 f) λz=>
 bd (ah .add y z) λe=>
 bd (ah .add c (J 4)) λA=>
 bd (aB 1 a0 (some A) (some e) none) λg=>
 bd (aB 1 a0 (some h) (some e) none) λC=>
 ax (kf 131 [g] G) λD M=>
 ax (kf 130 [C,D] M) λE H=>
 bd (gH .not E) λF=>
 br F (bd (aD [(Z .av),h,(B false)]) λK=>
 some (K,H))
 (bd (aD [g,e,(B true)]) λL=>
 some (L,H)))
theorem NQ:iB 93 f93:=λd a0 a s=>(ak rfl Tryz.func93 (by kernel_rfl)).trans (by generalize R d=c;kernel_rfl)
def f95:fh:=λkf N a0 s=>
 ax (aE s (b6 a0)) λj d=>
 bd (ay 8 j d.get) λk=>
 ax (kf 133 [k] d) λf e=>
 bd (ai f 0) λl=>
 bd (ai f 1) λa=>
 bd (ah .neq a (J 0)) λb=>
 br b (bd (aD [(Z .av),a]) λg=>
 some (g,e))
 (ax (kf 131 [l] e) λc i=>
 bd (aD [c,(J 0)]) λh=>
 some (h,i))
theorem NS:fC 95 f95:=λd a0 s=>(ak rfl Tryz.func95 (by kernel_rfl)).trans (by generalize R d=c;kernel_rfl)
def rR:gI:=λkf N v s=>
 bd (aG (vq v 1)) λd=>
 bd (ah .lss d (J 2000)) λe=>
 br e (jn (ax (kf 93 [(vq v 0),(vq v 2)] s) λa q=>
 bd (ai a 0) λf=>
 bd (ai a 1) λg=>
 bd (ai a 2) λh=>
 bd (gH .not h) λi=>
 br i (jE 0 [(vq v 1),(vq v 2)] q)
 (ax (kf 94 [f] q) λb t=>
 bd (ai b 0) λj=>
 bd (ai b 1) λk=>
 ax (aE t (a6 [iz,iz,iz,iz,iz,iz,.int .u32 0,.str []])) λr u=>
 ax (aj 8 r j u) λ_ c=>
 bd (ah .neq k (J 0)) λl=>
 br l (jE 0 [(vq v 1),(vq v 2)] c)
 (bd (ay 8 r c.get) λm=>
 ax (aE c (aN 1 (aA [iz,iz,iz,iz,iz,iz,.int .u32 0,.str []] [(0,8,m)]))) λn w=>
 ax (aF 8 72 (vq v 1) n w) λo s6=>
 nm [(vq v 0),o,g] s6)))
 (λp x=>nm [(vq p 0),(vq p 1),(vq p 2)] x)
 jE
 jR)
 (jE 0 [(vq v 1),(vq v 2)] s)
def f43:fh:=λkf N a0 s=>
 jn (jn (loops (rR kf N) N [a0,(Z .av),(J 0)] s)
 (jM [.any,.any])
 jZ
 jR)
 (λa c=>bd (aD [(vq a 0),(vq a 1)]) λb=>
 some (b,c))
 jN
 jT
theorem Nj:fC 43 f43:=λd a0 s=>(ak rfl Tryz.func43 (by kernel_rfl)).trans (by generalize R d=c;kernel_rfl)
end
noncomputable section
def f90:fh:=λkf N a0 s=>
 bd (aV a0) λh=>
 bd (ah .geq h (J 1)) λb=>
 bd (gU b (some a0)) λi=>
 bd (gU b (aV i)) λj=>
 bd (gU b (ah .leq j (J 20))) λk=>
 bd (pF b k) λa=>
 bd (gU a (some a0)) λc=>
 ax (gS (gd a true) s (kf 129 [c,(Z (.str [97,98,99,100,101,102,103,104,105,106,107,108,109,110,111,112,113,114,115,116,117,118,119,120,121,122,48,49,50,51,52,53,54,55,56,57,46]))] s)) λd g=>
 bd (gU a (ah .eql d (Z (.str [])))) λe=>
 bd (pF a e) λf=>
 some (f,g)
theorem PI(kf:bc)(N:Nat)(a0:T)(s:St):sN Tryz.prog kf N Tryz.f90 [a0] s=f90 kf N a0 s:=by kernel_rfl
def f10:fh:=λkf N a0 s=>
 bd (ah .lss a0 (J 0)) λd=>
 bd (gF d (some a0)) λg=>
 bd (gF d (ah .gtr g (J 1048576))) λh=>
 bd (pT d h) λi=>
 br i (some ((Z .c9),s))
 (ax (aE s (Oh)) λa e=>
 bd (aO (aA [iz,.pb] [(0,1,a0),(1,1,a)])) λb=>
 ax (aE e (b6 b)) λc f=>
 some (c,f))
theorem MX:fC 10 f10:=λd a0 s=>(ak rfl Tryz.func10 (by kernel_rfl)).trans (by generalize R d=c;kernel_rfl)
def f12:F4:=λkf N a0 V k s=>
 ax (kf 36 [a0,V] s) λi g=>
 bd (ai i 0) λc=>
 bd (ai i 1) λd=>
 bd (ah .neq d (J 0)) λe=>
 bd (gU e (some d)) λm=>
 bd (gU e (ah .neq m (J 9))) λn=>
 bd (pF e n) λo=>
 br o (some (d,g))
 (bd (lu .p c (Z .c9)) λb=>
 bd (gU b (some a0)) λq=>
 bd (gU b (ba q)) λr=>
 bd (gU b (ab 1 r)) λt=>
 bd (gU b (aa t g.get)) λu=>
 bd (gU b (lr u g.get)) λv=>
 bd (gU b (ah .eql v (J 200))) λw=>
 bd (pF b w) λa=>
 bd (gF a (some a0)) λx=>
 ax (gS (gd a false) g (kf 30 [x] g)) λy h=>
 bd (gF a (some k)) λz=>
 bd (gF a (aG z)) λA=>
 bd (gF a (ah .add y A)) λB=>
 bd (gF a (some a0)) λC=>
 bd (gF a (ba C)) λD=>
 bd (gF a (ab 0 D)) λf=>
 bd (gF a (aa f h.get)) λE=>
 bd (gF a (ah .gtr B E)) λF=>
 bd (pT a F) λG=>
 ck ((wq (gd a false) (decide (aa f g.get=aa f h.get))&&true)&&true) (br G (some ((J 8),h))
 (bd (lu .p c (Z .c9)) λH=>
 jn (br H (bd (aO (aA [.av,iz] [])) λI=>
 ax (aE h (b6 I)) λj W=>
 bd (ba a0) λK=>
 bd (ab 1 K) λL=>
 bd (aa L W.get) λM=>
 ax (G3 .s M V j W) λ_ X=>
 nm [k,j] X)
 (nm [k,c] h))
 (λU s6=>bd (ba (vq U 1)) λO=>
 bd (ab 0 O) λP=>
 bd (aa P s6.get) λQ=>
 ax (aF 1 1 Q (vq U 0) s6) λR Y=>
 bd (ba (vq U 1)) λS=>
 bd (ab 0 S) λT=>
 ax (aj 1 T R Y) λ_ l=>
 some ((J 0),l))
 jN
 jT)))
theorem MZ:My 12 f12:=λd a0 a b s=>(ak rfl Tryz.func12 (by kernel_rfl)).trans (by generalize R d=c;kernel_rfl)
def f47:iA:=λkf N a0 l s=>
 ax (kf 36 [a0,l] s) λb d=>
 bd (ai b 0) λc=>
 bd (ai b 1) λa=>
 bd (ah .eql a (J 0)) λe=>
 jn (br e (bd (ba c) λf=>
 bd (ab 0 f) λg=>
 bd (aa g d.get) λh=>
 bd (aG h) λi=>
 bd (ba c) λj=>
 bd (ab 1 j) λk=>
 ax (aj 1 k i d) λ_ m=>
 nm [a] m)
 (nm [a] d))
 (λv3 n=>some ((vq v3 0),n))
 jN
 jT
theorem EI:iB 47 f47:=λd a0 a s=>(ak rfl Tryz.func47 (by kernel_rfl)).trans (by generalize R d=c;kernel_rfl)
def f42:iA:=λkf N a0 j s=>
 ax (kf 36 [a0,j] s) λa c=>
 bd (ai a 0) λd=>
 bd (ai a 1) λb=>
 bd (ah .neq b (J 0)) λe=>
 br e (bd (aD [(Z .av),b]) λk=>
 some (k,c))
 (bd (ba d) λf=>
 bd (ab 0 f) λg=>
 bd (aa g c.get) λh=>
 ax (kf 92 [h] c) λi m=>
 bd (aD [i,(J 0)]) λl=>
 some (l,m))
theorem yT:iB 42 f42:=λd a0 a s=>(ak rfl Tryz.func42 (by kernel_rfl)).trans (by generalize R d=c;kernel_rfl)
def f45:F4:=λkf N a0 E g s=>
 ax (kf 36 [a0,E] s) λc f=>
 bd (ai c 0) λd=>
 bd (ai c 1) λe=>
 jn (bd (ah .neq e (J 0)) λi=>
 br i (jR e f)
 (bd (ah .lss g (J 0)) λa=>
 bd (gF a (some g)) λj=>
 bd (gF a (some d)) λk=>
 bd (gF a (ba k)) λl=>
 bd (gF a (ab 0 l)) λm=>
 bd (gF a (aa m f.get)) λn=>
 bd (gF a (aG n)) λo=>
 bd (gF a (ah .gtr j o)) λp=>
 bd (pT a p) λq=>
 br q (jR (J 5) f)
 (nm [g,d] f)))
 (λb h=>bd (ba (vq b 1)) λr=>
 bd (ab 0 r) λt=>
 bd (aa t h.get) λu=>
 bd (aB 1 u none (some (vq b 0)) none) λv=>
 bd (ba (vq b 1)) λw=>
 bd (ab 1 w) λx=>
 bd (aa x h.get) λy=>
 bd (kz l3 y [(vq b 0)]) λz=>
 bd (ba (vq b 1)) λA=>
 bd (ab 0 A) λB=>
 ax (aj 1 B v h) λ_ s6=>
 bd (ba (vq b 1)) λC=>
 bd (ab 1 C) λD=>
 ax (aj 1 D z s6) λ_ F=>
 some ((J 0),F))
 jN
 jT
theorem EH:My 45 f45:=λd a0 a b s=>(ak rfl Tryz.func45 (by kernel_rfl)).trans (by generalize R d=c;kernel_rfl)
def f54:iA:=λkf N a0 h s=>
 ax (kf 36 [a0,h] s) λb c=>
 bd (ai b 0) λk=>
 bd (ai b 1) λa=>
 bd (ah .eql a (J 0)) λd=>
 jn (br d (bd (ba a0) λe=>
 bd (ab 1 e) λf=>
 bd (aa f c.get) λg=>
 ax (PU .s g h c) λ_ i=>
 nm [a] i)
 (nm [a] c))
 (λv3 j=>some ((vq v3 0),j))
 jN
 jT
theorem EJ:iB 54 f54:=λd a0 a s=>(ak rfl Tryz.func54 (by kernel_rfl)).trans (by generalize R d=c;kernel_rfl)
def pM:gI:=λkf N v s=>
 bd (ah .lss (vq v 4) (vq v 3)) λb=>
 br b (jn (bd (ar 1 (vq v 2) (vq v 4)) λc=>
 bd (aa c s.get) λd=>
 bd (ba (vq v 0)) λe=>
 bd (ab 1 e) λf=>
 bd (aa f s.get) λg=>
 bd (Go.Abs.F.look .s false (.s (.c9)) g d s.get) λh=>
 bd (ba h) λi=>
 bd (ab 0 i) λj=>
 bd (aa j s.get) λk=>
 bd (aG k) λl=>
 bd (ah .add (vq v 1) l) λm=>
 nm [(vq v 0),m,(vq v 2),(vq v 3),(vq v 4)] s)
 (λa o=>bd (ah .add (vq a 4) (J 1)) λn=>
 nm [(vq a 0),(vq a 1),(vq a 2),(vq a 3),n] o)
 jE
 jR)
 (jE 0 [(vq v 1)] s)
def f30:fh:=λkf N a0 s=>
 ax (kf 29 [a0] s) λc d=>
 bd (aG c) λe=>
 jn (jn (loops (pM kf N) N [a0,(J 0),c,e,(J 0)] d)
 (jM [.any])
 jZ
 jR)
 (λb a=>some ((vq b 0),a))
 jN
 jT
theorem M9:fC 30 f30:=λd a0 s=>(ak rfl Tryz.func30 (by kernel_rfl)).trans (by generalize R d=c;kernel_rfl)
def f36:iA:=λkf N a0 b s=>
 jn (bd (lu .p a0 (Z .c9)) λu=>
 br u (bd (aD [(Z .c9),(J 10)]) λo=>
 jR o s)
 (ax (kf 90 [b] s) λc a=>
 bd (gH .not c) λd=>
 br d (bd (aD [(Z .c9),(J 1)]) λq=>
 jR q a)
 (bd (ba a0) λe=>
 bd (ab 1 e) λf=>
 bd (aa f a.get) λg=>
 bd (Go.Abs.F.look .s false (.s (.c9)) g b a.get) λh=>
 bd (lu .p h (Z .c9)) λi=>
 br i (bd (aD [(Z .c9),(J 9)]) λr=>
 jR r a)
 (nm [a0,b] a))))
 (λn s6=>bd (ba (vq n 0)) λj=>
 bd (ab 1 j) λk=>
 bd (aa k s6.get) λl=>
 bd (Go.Abs.F.look .s false (.s (.c9)) l (vq n 1) s6.get) λm=>
 bd (aD [m,(J 0)]) λt=>
 some (t,s6))
 jN
 jT
theorem tZ:iB 36 f36:=λd a0 a s=>(ak rfl Tryz.func36 (by kernel_rfl)).trans (by generalize R d=c;kernel_rfl)
end
noncomputable section
def f49:iA:=λkf N a0 a s=>
 ax (kf 98 [a0,a] s) λc b=>
 bd (ah .geq c (J 0)) λd=>
 some (d,b)
theorem Nn:iB 49 f49:=λd a0 a s=>(ak rfl Tryz.func49 (by kernel_rfl)).trans (by generalize R d=c;kernel_rfl)
def vl:gI:=λkf N v s=>
 bd (ah .lss (vq v 3) (vq v 2)) λh=>
 br h (jn (bd (ar 5 (vq v 0) (vq v 3)) λb=>
 bd (ay 5 b s.get) λc=>
 ax (dyn Tryz.prog kf (vq v 1) [c] s) λd f=>
 br d (jR (vq v 3) f)
 (nm [(vq v 0),(vq v 1),(vq v 2),(vq v 3)] f))
 (λa g=>bd (ah .add (vq a 3) (J 1)) λe=>
 nm [(vq a 0),(vq a 1),(vq a 2),e] g)
 jE
 jR)
 (jE 0 [] s)
def f98:iA:=λkf N a0 b s=>
 bd (aG a0) λc=>
 jn (jn (loops (vl kf N) N [a0,b,c,(J 0)] s)
 (jM [])
 jZ
 jR)
 (λd a=>some ((J (-1)),a))
 jN
 jT
theorem EP:iB 98 f98:=λd a0 a s=>(ak rfl Tryz.func98 (by kernel_rfl)).trans (by generalize R d=c;kernel_rfl)
def f50:iA:=λkf N a0 b s=>
 ax (aE s (b6 a0)) λd a=>
 bd (aa b a.get) λe=>
 bd (ay 5 d a.get) λf=>
 ax (kf 51 [e,f] a) λg c=>
 bd (gH .not g) λh=>
 some (h,c)
theorem Np:iB 50 f50:=λd a0 a s=>(ak rfl Tryz.func50 (by kernel_rfl)).trans (by generalize R d=c;kernel_rfl)
def f53:iA:=λkf N a0 b s=>
 ax (aE s (b6 a0)) λc a=>
 bd (ab 0 c) λd=>
 bd (aa d a.get) λe=>
 bd (aa b a.get) λf=>
 bd (ah .eql e f) λg=>
 some (g,a)
theorem Nr:iB 53 f53:=λd a0 a s=>(ak rfl Tryz.func53 (by kernel_rfl)).trans (by generalize R d=c;kernel_rfl)
def f78:fh:=λkf N a0 s=>
 bd (lu .l a0 (Z .av)) λc=>
 br c (some ((Z .av),s))
 (ax (aE s (aN 0 (aA [] []))) λd a=>
 ax (aF 8 72 d a0 a) λe b=>
 some (e,b))
theorem NI:fC 78 f78:=λd a0 s=>(ak rfl Tryz.func78 (by kernel_rfl)).trans (by generalize R d=c;kernel_rfl)
def f80:iA:=λkf N a0 b s=>
 ax (aE s (b6 a0)) λc a=>
 bd (ab 0 c) λd=>
 bd (aa d a.get) λe=>
 bd (aa b a.get) λf=>
 bd (ah .eql e f) λg=>
 some (g,a)
theorem NK:iB 80 f80:=λd a0 a s=>(ak rfl Tryz.func80 (by kernel_rfl)).trans (by generalize R d=c;kernel_rfl)
def rO:gI:=λkf N v s=>
 bd (ah .lss (vq v 4) (vq v 3)) λd=>
 br d (jn (bd (ar 8 (vq v 2) (vq v 4)) λe=>
 bd (ay 8 e s.get) λf=>
 ax (aE s (a6 [iz,iz,iz,iz,iz,iz,.int .u32 0,.str []])) λb m=>
 ax (aj 8 b f m) λ_ k=>
 bd (ay 8 b k.get) λg=>
 ax (kf 44 [(vq v 1),g] k) λh l=>
 bd (gH .not h) λi=>
 br i (jE 0 [(vq v 0),(vq v 1)] l)
 (nm [(vq v 0),(vq v 1),(vq v 2),(vq v 3),(vq v 4)] l))
 (λa c=>bd (ah .add (vq a 4) (J 1)) λj=>
 nm [(vq a 0),(vq a 1),(vq a 2),(vq a 3),j] c)
 jE
 jR)
 (jE 0 [(vq v 0),(vq v 1)] s)
def mw:gI:=λkf N v s=>
 bd (ah .lss (vq v 5) (vq v 4)) λk=>
 br k (jn (bd (ar 1 (vq v 3) (vq v 5)) λl=>
 bd (aa l s.get) λf=>
 ax (kf 52 [f] s) λm g=>
 ax (aE g (a6 [iz])) λe h=>
 ax (aj 1 e m h) λ_ c=>
 bd (aa e c.get) λn=>
 bd (ah .eql n (J 0)) λb=>
 bd (gF b (some (vq v 2))) λo=>
 bd (gF b (tJ 53 [e] [])) λp=>
 ax (gS (gd b false) c (kf 49 [o,p] c)) λq d=>
 bd (pT b q) λr=>
 br r (nm [(vq v 0),(vq v 1),(vq v 2),(vq v 3),(vq v 4),(vq v 5)] d)
 (bd (aa (vq v 0) d.get) λt=>
 ax (kf 54 [t,f] d) λw i=>
 nm [(vq v 0),(vq v 1),(vq v 2),(vq v 3),(vq v 4),(vq v 5)] i))
 (λa j=>bd (ah .add (vq a 5) (J 1)) λu=>
 nm [(vq a 0),(vq a 1),(vq a 2),(vq a 3),(vq a 4),u] j)
 jE
 jR)
 (jE 2 [(vq v 1)] s)
def f14:fh:=λkf N a0 s=>
 ax (aE s (b6 a0)) λd f=>
 bd (aa d f.get) λA=>
 bd (lu .p A (Z .c9)) λB=>
 br B (bd (aD [(Z .c9),(J 1)]) λr2=>
 some (r2,f))
 (bd (aa d f.get) λC=>
 ax (kf 41 [] f) λD y=>
 bd (aO (aA [.c9,.av,.av,.c9,iz] [(0,1,C),(3,1,D)])) λl=>
 ax (aE y (b6 l)) λE s4=>
 ck ((decide (aa d (cl 2 y.get (wC 3 y.size (b6 l) []))=aa d f.get)&&true)&&true) (bd (aa d s4.get) λF=>
 ax (kf 42 [F,(Z (.str [108,111,103]))] s4) λm s5=>
 bd (ai m 0) λG=>
 bd (ai m 1) λSr=>
 ax (kf 43 [G] s5) λn s6=>
 bd (ai n 0) λo=>
 bd (ai n 1) λSs=>
 bd (aG o) λH=>
 jn (jn (loops (rO kf N) N [d,E,o,H,(J 0)] s6)
 (jM [.any,.any])
 jZ
 jR)
 (λa b=>bd (aa (vq a 0) b.get) λI=>
 bd (ba (vq a 1)) λK=>
 bd (ab 1 K) λL=>
 bd (aa L b.get) λM=>
 bd (aG M) λO=>
 ax (kf 46 [(vq a 1),O] b) λP g=>
 ax (kf 45 [I,(Z (.str [108,111,103])),P] g) λSu h=>
 ck ((decide (aa (vq a 0) g.get=aa (vq a 0) b.get)&&true)&&true) (bd (aa (vq a 0) h.get) λQ=>
 ax (kf 47 [Q,(Z (.str [108,111,103]))] h) λSv i=>
 bd (ba (vq a 1)) λR=>
 bd (ab 1 R) λS=>
 bd (aa S i.get) λT=>
 bd (aG T) λU=>
 bd (ba (vq a 1)) λV=>
 bd (ab 4 V) λW=>
 ax (aj 1 W U i) λ_ j=>
 bd (ba (vq a 1)) λX=>
 bd (ab 3 X) λY=>
 bd (aa Y j.get) λSj=>
 ax (kf 48 [Sj] j) λq w=>
 bd (tJ 50 [(vq a 0)] []) λSk=>
 ax (kf 49 [q,Sk] w) λSl c=>
 br Sl (bd (aD [(Z .c9),(J 2)]) λu=>
 some (u,c))
 (bd (aa (vq a 0) c.get) λSm=>
 ax (kf 29 [Sm] c) λr x=>
 bd (aG r) λSn=>
 jn (jn (loops (mw kf N) N [(vq a 0),(vq a 1),q,r,Sn,(J 0)] x)
 (jM [.any])
 (λe t k=>if e=2 then some (.normal t,k)else some (.exit e t,k))
 jR)
 (λSp z=>bd (aD [(vq Sp 0),(J 0)]) λv=>
 some (v,z))
 jN
 jT)))
 jN
 jT))
theorem EF:fC 14 f14:=λd a0 s=>(ak rfl Tryz.func14 (by kernel_rfl)).trans (by generalize R d=c;kernel_rfl)
def f51:iA:=λkf N a0 w s=>
 ax (aE s (b6 w)) λu r=>
 bd (ab 0 u) λe=>
 bd (aa e r.get) λf=>
 ax (kf 69 [f] r) λg x=>
 ax (kf 42 [a0,g] x) λc t=>
 bd (ai c 0) λh=>
 bd (ai c 1) λj=>
 bd (ah .neq j (J 0)) λk=>
 br k (some ((B false),t))
 (ax (kf 77 [h] t) λd y=>
 bd (ai d 0) λl=>
 bd (ai d 1) λm=>
 ax (aE y (a6 [iz,iz,iz,iz,.int .u32 0])) λv z=>
 ax (aj 5 v l z) λ_ s6=>
 bd (ah .eql m (J 0)) λb=>
 bd (gU b (ay 5 v s6.get)) λn=>
 bd (gU b (ay 5 u s6.get)) λo=>
 bd (gU b (lu (.a 5 [(0,.i),(1,.i),(2,.i),(3,.i),(4,.i)]) n o)) λp=>
 bd (pF b p) λq=>
 some (q,s6))
theorem Nq:iB 51 f51:=λd a0 a s=>(ak rfl Tryz.func51 (by kernel_rfl)).trans (by generalize R d=c;kernel_rfl)
def f46:iA:=λkf N a0 e s=>
 bd (ah .eql e (J 0)) λf=>
 br f (some ((J 0),s))
 (bd (ba a0) λg=>
 bd (ab 2 g) λh=>
 bd (aa h s.get) λa=>
 bd (ah .sub e (J 1)) λb=>
 bd (ar 1 a b) λc=>
 bd (aa c s.get) λd=>
 some (d,s))
theorem Nk:iB 46 f46:=λd a0 a s=>(ak rfl Tryz.func46 (by kernel_rfl)).trans (by generalize R d=c;kernel_rfl)
def f44:iA:=λkf N a0 T s=>
 ax (aE s (b6 T)) λv R=>
 bd (ay 8 v R.get) λX=>
 ax (kf 95 [X] R) λS e=>
 bd (ai S 0) λi=>
 bd (ai S 1) λj=>
 bd (ah .neq j (J 0)) λa=>
 bd (gF a (some a0)) λk=>
 bd (gF a (ba k)) λl=>
 bd (gF a (ab 3 l)) λm=>
 bd (gF a (aa m e.get)) λn=>
 bd (gF a (ay 8 v e.get)) λo=>
 ax (gS (gd a false) e (kf 96 [n,o] e)) λp c=>
 bd (gF a (ah .neq p (J 0))) λq=>
 bd (pT a q) λr=>
 br r (some ((B false),c))
 (bd (ba a0) λt=>
 bd (ab 2 t) λb=>
 bd (aa b c.get) λu=>
 bd (ba a0) λw=>
 bd (ab 1 w) λx=>
 bd (aa x c.get) λy=>
 bd (aG y) λz=>
 ax (kf 46 [a0,z] c) λA g=>
 bd (aG i) λC=>
 bd (ah .add A C) λd=>
 ax (aE g (aN 1 (aA [iz] [(0,1,d)]))) λD U=>
 ax (aF 1 8 u D U) λE s6=>
 bd (ba a0) λF=>
 bd (ab 2 F) λG=>
 ax (aj 1 G E s6) λ_ h=>
 ck ((decide (aa b (cl 12 g.get (wC 15 g.size (aN 1 (aA [iz] [(0,1,d)])) []))=aa b c.get)&&true)&&true) (bd (ba a0) λH=>
 bd (ab 1 H) λI=>
 bd (aa I h.get) λK=>
 bd (ay 8 v h.get) λL=>
 ax (aE h (aN 1 (aA [iz,iz,iz,iz,iz,iz,.int .u32 0,.str []] [(0,8,L)]))) λM V=>
 ax (aF 8 72 K M V) λO W=>
 bd (ba a0) λP=>
 bd (ab 1 P) λQ=>
 ax (aj 1 Q O W) λ_ f=>
 some ((B true),f)))
theorem yU:iB 44 f44:=λd a0 a s=>(ak rfl Tryz.func44 (by kernel_rfl)).trans (by generalize R d=c;kernel_rfl)
def f27:fh:=λkf N a0 s=>
 bd (lu .p a0 (Z .c9)) λb=>
 br b (some ((Z .av),s))
 (bd (ba a0) λc=>
 bd (ab 3 c) λd=>
 bd (aa d s.get) λe=>
 ax (kf 48 [e] s) λf a=>
 some (f,a))
theorem M8:fC 27 f27:=λd a0 s=>(ak rfl Tryz.func27 (by kernel_rfl)).trans (by generalize R d=c;kernel_rfl)
def f23:fh:=λkf N a0 s=>
 bd (lu .p a0 (Z .c9)) λb=>
 br b (some ((Z .av),s))
 (bd (ba a0) λc=>
 bd (ab 1 c) λd=>
 bd (aa d s.get) λe=>
 ax (kf 78 [e] s) λf a=>
 some (f,a))
theorem M5:fC 23 f23:=λd a0 s=>(ak rfl Tryz.func23 (by kernel_rfl)).trans (by generalize R d=c;kernel_rfl)
def f24:fh:=λkf N a0 s=>
 bd (lu .p a0 (Z .c9)) λa=>
 br a (some ((J 0),s))
 (bd (ba a0) λb=>
 bd (ab 4 b) λc=>
 bd (aa c s.get) λd=>
 some (d,s))
theorem M6:fC 24 f24:=λd a0 s=>(ak rfl Tryz.func24 (by kernel_rfl)).trans (by generalize R d=c;kernel_rfl)
def f32:fh:=λkf N a0 s=>
 ax (aE s (a6 [iz,iz,iz,iz,iz,iz])) λa b=>
 bd (lu .p a0 (Z .c9)) λj=>
 br j (bd (aO (aA [iz,iz,iz,iz,iz,iz] [])) λk=>
 ax (aj 6 a k b) λ_ d=>
 bd (rC (ay 6 a d.get) (some [])) λe=>bd (aD e) λg=>
 some (g,d))
 (bd (ba a0) λl=>
 bd (ab 3 l) λm=>
 bd (aa m b.get) λn=>
 ax (kf 84 [n] b) λc i=>
 ax (aj 6 a c i) λ_ s6=>
 bd (rC (ay 6 a s6.get) (some [])) λf=>bd (aD f) λh=>
 some (h,s6))
theorem Nb:fC 32 f32:=λd a0 s=>(ak rfl Tryz.func32 (by kernel_rfl)).trans (by generalize R d=c;kernel_rfl)
end
noncomputable section
end
noncomputable section
def sR:gI:=λkf N v s=>
 bd (aG (vq v 0)) λH=>
 bd (ah .lss (vq v 6) H) λk=>
 bd (gU k (some (vq v 6))) λI=>
 bd (gU k (ah .lss I (J 40))) λK=>
 bd (pF k K) λL=>
 br L (jn (bd (ar 1 (vq v 0) (vq v 6)) λO=>
 bd (aa O s.get) λP=>
 bd (az .u64 P) λc=>
 jn (bd (ah .rem c (J6 8)) λSn=>
 bd (ah .eql Sn (J6 7)) λSp=>
 jn (br Sp (bd (ah .add (vq v 3) (J 1)) λA=>
 bd (aO (aA [iz,iz,iz,iz,iz,iz,.int .u32 0,.str []] [(0,1,(J 3)),(1,1,A)])) λSr=>
 ax (aE s (aN 1 (aA [iz,iz,iz,iz,iz,iz,.int .u32 0,.str []] [(0,8,Sr)]))) λSs s1=>
 ax (aF 8 72 (vq v 1) Ss s1) λSu s2=>
 nm [(vq v 0),Su,(vq v 2),A,(vq v 4),(vq v 5),(vq v 6)] s2)
 (bd (ah .rem c (J6 8)) λSv=>
 bd (ah .eql Sv (J6 6)) λSw=>
 jn (br Sw (ax (aE s (aN 3 (aA [.str [],.str [],.str []] [(0,1,(Z (.str [49]))),(1,1,(Z (.str [57]))),(2,1,(Z (.str [51,51])))]))) λSx s3=>
 bd (ah .quo c (J6 8)) λSy=>
 bd (ah .rem Sy (J6 3)) λSz=>
 bd (ar 1 Sx Sz) λSA=>
 bd (aa SA s3.get) λSB=>
 bd (ah .add (Z (.str [115,101,97,108,32])) SB) λSC=>
 bd (aO (aA [iz,iz,iz,iz,iz,iz,.int .u32 0,.str []] [(0,1,(J 4)),(1,1,(vq v 3)),(7,1,SC)])) λSD=>
 ax (aE s3 (aN 1 (aA [iz,iz,iz,iz,iz,iz,.int .u32 0,.str []] [(0,8,SD)]))) λSE s4=>
 ax (aF 8 72 (vq v 1) SE s4) λSF s5=>
 nm [(vq v 0),SF,(vq v 2),(vq v 3),(vq v 4),(vq v 5),(vq v 6)] s5)
 (bd (ah .rem c (J6 8)) λSG=>
 bd (ah .gtr SG (J6 3)) λi=>
 bd (gU i (some (vq v 2))) λSH=>
 bd (gU i (aG SH)) λSI=>
 bd (gU i (ah .gtr SI (J 0))) λSJ=>
 bd (pF i SJ) λSK=>
 jn (br SK (bd (ah .quo c (J6 8)) λSL=>
 bd (aG (vq v 2)) λSM=>
 bd (az .u64 SM) λSN=>
 bd (ah .rem SL SN) λSO=>
 bd (az .i64 SO) λj=>
 bd (ar 1 (vq v 2) j) λo=>
 bd (aa o s.get) λp=>
 bd (aO (aA [iz,iz,iz,iz,iz,iz,.int .u32 0,.str []] [(0,1,(J 2)),(1,1,(vq v 3)),(2,1,p)])) λq=>
 ax (aE s (aN 1 (aA [iz,iz,iz,iz,iz,iz,.int .u32 0,.str []] [(0,8,q)]))) λr s6=>
 ax (aF 8 72 (vq v 1) r s6) λt s7=>
 bd (aB 1 (vq v 2) none (some j) (some j)) λu=>
 bd (ah .add j (J 1)) λw=>
 bd (aB 1 (vq v 2) (some w) none none) λx=>
 ax (aF 1 8 u x s7) λy s8=>
 nm [(vq v 0),t,y,(vq v 3),(vq v 4),(vq v 5),(vq v 6)] s8)
 (bd (ah .add (vq v 4) (J 1)) λl=>
 bd (ah .add (vq v 5) (J 1)) λQ=>
 bd (ah .quo c (J6 8)) λR=>
 bd (ah .rem R (J6 30)) λS=>
 bd (az .i64 S) λT=>
 bd (ah .add Q T) λz=>
 bd (ah .quo c (J6 8)) λU=>
 bd (ah .rem U (J6 4)) λV=>
 bd (az .i64 V) λW=>
 bd (az .u32 c) λX=>
 bd (aO (aA [iz,iz,iz,iz,iz,iz,.int .u32 0,.str []] [(0,1,(J 1)),(1,1,(vq v 3)),(2,1,l),(3,1,W),(4,1,(vq v 5)),(5,1,z),(6,1,X)])) λY=>
 ax (aE s (aN 1 (aA [iz,iz,iz,iz,iz,iz,.int .u32 0,.str []] [(0,8,Y)]))) λSj s9=>
 ax (aF 8 72 (vq v 1) Sj s9) λSk B=>
 ax (aE B (aN 1 (aA [iz] [(0,1,l)]))) λSl C=>
 ax (aF 1 8 (vq v 2) Sl C) λSm D=>
 nm [(vq v 0),Sk,Sm,(vq v 3),l,z,(vq v 6)] D))
 (λd E=>nm [(vq d 0),(vq d 1),(vq d 2),(vq d 3),(vq d 4),(vq d 5),(vq d 6)] E)
 jE
 jR))
 (λe F=>nm [(vq e 0),(vq e 1),(vq e 2),(vq e 3),(vq e 4),(vq e 5),(vq e 6)] F)
 jE
 jR))
 (λa g=>nm [(vq a 0),(vq a 1),(vq a 2),(vq a 3),(vq a 4),(vq a 5),(vq a 6)] g)
 (λm a g=>if m=2 then some (.normal a,g)else some (.exit m a,g))
 jR)
 (λb h=>nm [(vq b 0),(vq b 1),(vq b 2),(vq b 3),(vq b 4),(vq b 5),(vq b 6)] h)
 (λn b h=>if n=1 then some (.normal b,h)else some (.exit n b,h))
 jR)
 (λf G=>bd (ah .add (vq f 6) (J 1)) λM=>
 nm [(vq f 0),(vq f 1),(vq f 2),(vq f 3),(vq f 4),(vq f 5),M] G)
 jE
 jR)
 (jE 0 [(vq v 1)] s)
def f9:fh:=λkf N a0 s=>
 jn (jn (loops (sR kf N) N [a0,(Z .av),(Z .av),(J 0),(J 0),(J 0),(J 0)] s)
 (jM [.any])
 jZ
 jR)
 (λb a=>some ((vq b 0),a))
 jN
 jT
theorem PJ:fC 9 f9:=λd a0 s=>(ak rfl Tryz.func9 (by kernel_rfl)).trans (by generalize R d=c;kernel_rfl)
def f35:fh:=λkf N a0 s=>
 ax (aE s (b6 a0)) λt l=>
 bd (ay 8 t l.get) λu=>
 ax (kf 89 [u] l) λn m=>
 bd (ai n 0) λa=>
 bd (ai n 1) λb=>
 bd (ah .neq b (J 0)) λd=>
 br d (bd (aD [(Z (.str [])),b]) λo=>
 some (o,m))
 (bd (aV a) λe=>
 bd (az .u64 e) λf=>
 ax (kf 71 [f] m) λc q=>
 bd (ah .add c a) λg=>
 ax (kf 75 [g] q) λh r=>
 ax (kf 74 [h] r) λi s6=>
 bd (ah .add c i) λj=>
 bd (ah .add j a) λk=>
 bd (aD [k,(J 0)]) λp=>
 some (p,s6))
theorem Nc:fC 35 f35:=λd a0 s=>(ak rfl Tryz.func35 (by kernel_rfl)).trans (by generalize R d=c;kernel_rfl)
def Bj:gI:=λkf N v s=>
 bd (aG (vq v 0)) λc=>
 bd (ah .lss (vq v 2) c) λd=>
 br d (jn (bd (ar 8 (vq v 0) (vq v 2)) λf=>
 bd (ay 8 f s.get) λg=>
 ax (kf 35 [g] s) λa k=>
 bd (ai a 0) λh=>
 bd (ai a 1) λb=>
 bd (ah .neq b (J 0)) λi=>
 br i (bd (aD [(Z (.str [])),b]) λl=>
 jR l k)
 (bd (ah .add (vq v 1) h) λj=>
 nm [(vq v 0),j,(vq v 2)] k))
 (λv3 m=>bd (ah .add (vq v3 2) (J 1)) λe=>
 nm [(vq v3 0),(vq v3 1),e] m)
 jE
 jR)
 (jE 0 [(vq v 0),(vq v 1)] s)
def f8:fh:=λkf N a0 s=>
 jn (jn (loops (Bj kf N) N [a0,(Z (.str [])),(J 0)] s)
 (jM [.any,.any])
 jZ
 jR)
 (λb a=>bd (aG (vq b 0)) λe=>
 bd (ah .gtr e (J 2000)) λf=>
 br f (bd (aD [(Z (.str [])),(J 8)]) λc=>
 some (c,a))
 (bd (aD [(vq b 1),(J 0)]) λd=>
 some (d,a)))
 jN
 jT
theorem PH:fC 8 f8:=λd a0 s=>(ak rfl Tryz.func8 (by kernel_rfl)).trans (by generalize R d=c;kernel_rfl)
def j0:gI:=λkf N v s=>
 bd (aV (vq v 0)) λk=>
 bd (ah .lss (vq v 2) k) λe=>
 bd (gU e (some (vq v 1))) λl=>
 bd (gU e (aG l)) λm=>
 bd (gU e (ah .lss m (J 2000))) λn=>
 bd (pF e n) λo=>
 br o (jn (ax (kf 100 [(vq v 0),(vq v 2)] s) λf s1=>
 bd (ai f 0) λc=>
 bd (ai f 1) λd=>
 bd (ai f 2) λp=>
 bd (ah .neq p (J 0)) λb=>
 bd (gF b (some c)) λq=>
 bd (gF b (some (vq v 0))) λr=>
 bd (gF b (aV r)) λt=>
 bd (gF b (az .u64 t)) λu=>
 bd (gF b (ah .gtr q u)) λw=>
 bd (pT b w) λa=>
 bd (gF a (some d)) λx=>
 bd (gF a (ah .add x (J 4))) λy=>
 bd (gF a (some c)) λz=>
 bd (gF a (az .i64 z)) λA=>
 bd (gF a (ah .add y A)) λB=>
 bd (gF a (some (vq v 0))) λC=>
 bd (gF a (aV C)) λD=>
 bd (gF a (ah .gtr B D)) λE=>
 bd (pT a E) λF=>
 br F (jE 0 [(vq v 1),(vq v 2)] s1)
 (bd (ah .add d (J 4)) λG=>
 bd (ah .add d (J 4)) λH=>
 bd (az .i64 c) λI=>
 bd (ah .add H I) λK=>
 bd (bn (vq v 0) (some G) (some K) none) λL=>
 ax (kf 101 [L] s1) λg s2=>
 bd (ai g 0) λM=>
 bd (ai g 1) λO=>
 ax (aE s2 (a6 [iz,iz,iz,iz,iz,iz,.int .u32 0,.str []])) λt9 s3=>
 ax (aj 8 t9 M s3) λ_ i=>
 bd (ah .neq O (J 0)) λP=>
 br P (jE 0 [(vq v 1),(vq v 2)] i)
 (bd (ay 8 t9 i.get) λQ=>
 ax (kf 35 [Q] i) λh j=>
 bd (ai h 0) λR=>
 bd (ai h 1) λSm=>
 bd (ah .add d (J 4)) λS=>
 bd (az .i64 c) λT=>
 bd (ah .add S T) λU=>
 bd (bn (vq v 0) (some (vq v 2)) (some U) none) λV=>
 bd (ah .neq R V) λW=>
 br W (jE 0 [(vq v 1),(vq v 2)] j)
 (bd (ay 8 t9 j.get) λX=>
 ax (aE j (aN 1 (aA [iz,iz,iz,iz,iz,iz,.int .u32 0,.str []] [(0,8,X)]))) λY s6=>
 ax (aF 8 72 (vq v 1) Y s6) λZ s7=>
 bd (ah .add d (J 4)) λSj=>
 bd (az .i64 c) λSk=>
 bd (ah .add Sj Sk) λSl=>
 nm [(vq v 0),Z,Sl] s7))))
 (λv8 s9=>nm [(vq v8 0),(vq v8 1),(vq v8 2)] s9)
 jE
 jR)
 (jE 0 [(vq v 1),(vq v 2)] s)
def f56:fh:=λkf N a0 s=>
 jn (jn (loops (j0 kf N) N [a0,(Z .av),(J 0)] s)
 (jM [.any,.any])
 jZ
 jR)
 (λa c=>bd (aD [(vq a 0),(vq a 1)]) λb=>
 some (b,c))
 jN
 jT
theorem Ns:fC 56 f56:=λd a0 s=>(ak rfl Tryz.func56 (by kernel_rfl)).trans (by generalize R d=c;kernel_rfl)
def f89:fh:=λkf N a0 s=>
 ax (aE s (b6 a0)) λd s1=>
 bd (ay 8 d s1.get) λt5=>
 ax (kf 104 [t5] s1) λt6 m=>
 bd (gH .not t6) λt7=>
 br t7 (bd (aD [(Z (.str [])),(J 1)]) λr3=>
 some (r3,m))
 (bd (ab 0 d) λt8=>
 bd (aa t8 m.get) λt9=>
 bd (az .u8 t9) λh=>
 ax (aE m (aN 1 (aA [.int .u8 0] [(0,1,h)]))) λi q=>
 bd (bQ i q.get) λz=>
 bd (ab 1 d) λA=>
 bd (aa A q.get) λB=>
 bd (az .u64 B) λC=>
 ax (kf 71 [C] q) λD b=>
 bd (ah .add z D) λf=>
 ck ((decide (aa t8 (cl 9 b.get (wC 3 m.size (aN 1 (aA [.int .u8 0] [(0,1,h)])) []))=aa t8 m.get)&&true)&&((decide (bQ i (cl 9 b.get (wC 3 m.size (aN 1 (aA [.int .u8 0] [(0,1,h)])) []))=bQ i q.get)&&true)&&true)) (bd (ab 0 d) λE=>
 bd (aa E b.get) λj=>
 jn (bd (ah .eql j (J 1)) λF=>
 jn (br F (bd (ab 2 d) λG=>
 bd (aa G b.get) λH=>
 bd (az .u64 H) λI=>
 ax (kf 71 [I] b) λK s6=>
 bd (ah .add f K) λL=>
 bd (ab 3 d) λk=>
 bd (aa k s6.get) λM=>
 bd (az .u64 M) λO=>
 ax (kf 71 [O] s6) λP n=>
 bd (ah .add L P) λQ=>
 bd (ab 4 d) λe=>
 bd (aa e n.get) λR=>
 bd (az .u64 R) λS=>
 ax (kf 71 [S] n) λT o=>
 bd (ah .add Q T) λU=>
 bd (ab 5 d) λc=>
 bd (aa c o.get) λV=>
 bd (az .u64 V) λW=>
 ax (kf 71 [W] o) λX p=>
 bd (ah .add U X) λY=>
 bd (ab 6 d) λa=>
 bd (aa a p.get) λSj=>
 bd (az .u64 Sj) λSk=>
 ax (kf 71 [Sk] p) λSl t=>
 bd (ah .add Y Sl) λSm=>
 ck ((decide (aa k b.get=aa k s6.get)&&true)&&((decide (aa e b.get=aa e n.get)&&(decide (aa e s6.get=aa e n.get)&&true))&&((decide (aa c b.get=aa c o.get)&&(decide (aa c s6.get=aa c o.get)&&(decide (aa c n.get=aa c o.get)&&true)))&&((decide (aa a b.get=aa a p.get)&&(decide (aa a s6.get=aa a p.get)&&(decide (aa a n.get=aa a p.get)&&(decide (aa a o.get=aa a p.get)&&true))))&&true)))) (nm [Sm] t))
 (bd (ah .eql j (J 2)) λSn=>
 jn (br Sn (bd (ab 2 d) λSp=>
 bd (aa Sp b.get) λSr=>
 bd (az .u64 Sr) λSs=>
 ax (kf 71 [Ss] b) λSu u=>
 bd (ah .add f Su) λSv=>
 nm [Sv] u)
 (bd (ah .eql j (J 4)) λSw=>
 jn (br Sw (bd (ab 7 d) λSx=>
 bd (aa Sx b.get) λSy=>
 bd (aV Sy) λSz=>
 bd (az .u64 Sz) λSA=>
 ax (kf 71 [SA] b) λSB g=>
 bd (ah .add f SB) λSC=>
 bd (ab 7 d) λl=>
 bd (aa l g.get) λSD=>
 bd (ah .add SC SD) λSE=>
 ck ((decide (aa l b.get=aa l g.get)&&true)&&true) (nm [SE] g))
 (nm [f] b))
 (λSF v=>nm [(vq SF 0)] v)
 jE
 jR))
 (λSG w=>nm [(vq SG 0)] w)
 jE
 jR))
 (λSH x=>nm [(vq SH 0)] x)
 jZ
 jR)
 (λSI y=>bd (aD [(vq SI 0),(J 0)]) λr=>
 some (r,y))
 jN
 jT))
theorem NM:fC 89 f89:=λd a0 s=>(ak rfl Tryz.func89 (by kernel_rfl)).trans (by generalize R d=c;kernel_rfl)
def f101:fh:=λkf N a0 s=>
 ax (aE s (a6 [iz,iz,iz,iz,iz,iz,.int .u32 0,.str []])) λp s1=>
 bd (aO (aA [.str [],iz,.bool false] [(0,1,a0)])) λT=>
 ax (aE s1 (b6 T)) λa s2=>
 ax (kf 140 [a] s2) λU s3=>
 bd (az .i64 U) λV=>
 bd (aO (aA [iz,iz,iz,iz,iz,iz,.int .u32 0,.str []] [(0,1,V)])) λW=>
 ax (aE s3 (a6 [iz,iz,iz,iz,iz,iz,.int .u32 0,.str []])) λc s4=>
 ax (aj 8 c W s4) λ_ s5=>
 ax (kf 142 [a] s5) λX s6=>
 ax (kf 141 [X,(J6 1073741824)] s6) λY s7=>
 bd (ab 1 c) λZ=>
 ax (aj 1 Z Y s7) λ_ n=>
 bd (ab 0 c) λSj=>
 bd (aa Sj n.get) λi=>
 jn (bd (ah .eql i (J 1)) λSk=>
 jn (br Sk (ax (kf 142 [a] n) λSl s9=>
 ax (kf 141 [Sl,(J6 1073741824)] s9) λSm v=>
 ax (kf 142 [a] v) λSn w=>
 ax (kf 141 [Sn,(J6 4)] w) λSp x=>
 bd (ab 2 c) λSr=>
 ax (aj 1 Sr Sm x) λ_ y=>
 bd (ab 3 c) λSs=>
 ax (aj 1 Ss Sp y) λ_ z=>
 ax (kf 142 [a] z) λSu A=>
 ax (kf 141 [Su,(J6 1099511627776)] A) λSv B=>
 ax (kf 142 [a] B) λSw C=>
 ax (kf 141 [Sw,(J6 1099511627776)] C) λSx D=>
 bd (ab 4 c) λSy=>
 ax (aj 1 Sy Sv D) λ_ E=>
 bd (ab 5 c) λSz=>
 ax (aj 1 Sz Sx E) λ_ F=>
 ax (kf 142 [a] F) λSA G=>
 bd (az .u32 SA) λSB=>
 bd (ab 6 c) λSC=>
 ax (aj 1 SC SB G) λ_ H=>
 nm [a0,p,a,c] H)
 (bd (ah .eql i (J 2)) λSD=>
 jn (br SD (ax (kf 142 [a] n) λSE I=>
 ax (kf 141 [SE,(J6 1073741824)] I) λSF K=>
 bd (ab 2 c) λSG=>
 ax (aj 1 SG SF K) λ_ L=>
 nm [a0,p,a,c] L)
 (bd (ah .eql i (J 4)) λSH=>
 jn (br SH (ax (kf 142 [a] n) λSI M=>
 ax (kf 143 [a,SI] M) λSJ O=>
 bd (ab 7 c) λSK=>
 ax (aj 1 SK SJ O) λ_ P=>
 nm [a0,p,a,c] P)
 (nm [a0,p,a,c] n))
 (λf Q=>nm [(vq f 0),(vq f 1),(vq f 2),(vq f 3)] Q)
 jE
 jR))
 (λg R=>nm [(vq g 0),(vq g 1),(vq g 2),(vq g 3)] R)
 jE
 jR))
 (λh S=>nm [(vq h 0),(vq h 1),(vq h 2),(vq h 3)] S)
 jZ
 jR)
 (λb k=>bd (ay 8 (vq b 3) k.get) λSL=>
 ax (kf 89 [SL] k) λo d=>
 bd (ai o 0) λSM=>
 bd (ai o 1) λSN=>
 bd (ba (vq b 2)) λSO=>
 bd (ab 2 SO) λSP=>
 bd (aa SP d.get) λj=>
 bd (gF j (some SN)) λSQ=>
 bd (gF j (ah .neq SQ (J 0))) λSR=>
 bd (pT j SR) λe=>
 bd (gF e (some SM)) λSS=>
 bd (gF e (some (vq b 0))) λSU=>
 bd (gF e (ah .neq SS SU)) λSV=>
 bd (pT e SV) λSW=>
 br SW (bd (aO (aA [iz,iz,iz,iz,iz,iz,.int .u32 0,.str []] [])) λSX=>
 ax (aj 8 (vq b 1) SX d) λ_ l=>
 bd (rC (ay 8 (vq b 1) l.get) (rT (J 2) (some []))) λq=>bd (aD q) λt=>
 some (t,l))
 (bd (ay 8 (vq b 3) d.get) λSY=>
 ax (aj 8 (vq b 1) SY d) λ_ m=>
 bd (rC (ay 8 (vq b 1) m.get) (rT (J 0) (some []))) λr=>bd (aD r) λu=>
 some (u,m)))
 jN
 jT
theorem I4:fC 101 f101:=λd a0 s=>(ak rfl Tryz.func101 (by kernel_rfl)).trans (by generalize R d=c;kernel_rfl)
def f104:fh:=λkf N a0 s=>
 ax (aE s (b6 a0)) λb x=>
 bd (ab 1 b) λt7=>
 bd (aa t7 x.get) λt8=>
 bd (ah .lss t8 (J 0)) λT=>
 bd (gF T (ab 1 b)) λZ=>
 bd (gF T (aa Z x.get)) λSj=>
 bd (gF T (ah .gtr Sj (J 1073741824))) λSk=>
 bd (pT T Sk) λSl=>
 br Sl (some ((B false),x))
 (bd (ab 0 b) λSm=>
 bd (aa Sm x.get) λSn=>
 bd (ab 1 b) λSp=>
 bd (aa Sp x.get) λSr=>
 bd (aO (aA [iz,iz,iz,iz,iz,iz,.int .u32 0,.str []] [(0,1,Sn),(1,1,Sr)])) λSs=>
 ax (aE x (a6 [iz,iz,iz,iz,iz,iz,.int .u32 0,.str []])) λh s2=>
 ax (aj 8 h Ss s2) λ_ c=>
 bd (ab 0 b) λSu=>
 bd (aa Su c.get) λm=>
 jn (bd (ah .eql m (J 1)) λSv=>
 jn (br Sv (bd (ab 2 b) λSw=>
 bd (aa Sw c.get) λSx=>
 bd (ab 3 b) λw=>
 bd (aa w c.get) λSy=>
 bd (ab 4 b) λk=>
 bd (aa k c.get) λSz=>
 bd (ab 5 b) λf=>
 bd (aa f c.get) λSA=>
 bd (ab 6 b) λd=>
 bd (aa d c.get) λSB=>
 bd (ab 2 h) λSC=>
 ax (aj 1 SC Sx c) λ_ z=>
 bd (ab 3 h) λSD=>
 ax (aj 1 SD Sy z) λ_ R=>
 bd (ab 4 h) λSE=>
 ax (aj 1 SE Sz R) λ_ s6=>
 bd (ab 5 h) λSF=>
 ax (aj 1 SF SA s6) λ_ s7=>
 bd (ab 6 h) λSG=>
 ax (aj 1 SG SB s7) λ_ l=>
 ck ((decide (aa w z.get=aa w c.get)&&true)&&((decide (aa k z.get=aa k c.get)&&(decide (aa k R.get=aa k c.get)&&true))&&((decide (aa f z.get=aa f c.get)&&(decide (aa f R.get=aa f c.get)&&(decide (aa f s6.get=aa f c.get)&&true)))&&((decide (aa d z.get=aa d c.get)&&(decide (aa d R.get=aa d c.get)&&(decide (aa d s6.get=aa d c.get)&&(decide (aa d s7.get=aa d c.get)&&true))))&&true)))) (bd (ab 2 b) λSH=>
 bd (aa SH l.get) λSI=>
 bd (ah .lss SI (J 1)) λn=>
 bd (gF n (ab 2 b)) λSJ=>
 bd (gF n (aa SJ l.get)) λSK=>
 bd (gF n (ah .gtr SK (J 1073741824))) λSL=>
 bd (pT n SL) λo=>
 bd (gF o (ab 3 b)) λSM=>
 bd (gF o (aa SM l.get)) λSN=>
 bd (gF o (ah .lss SN (J 0))) λSO=>
 bd (pT o SO) λp=>
 bd (gF p (ab 3 b)) λSP=>
 bd (gF p (aa SP l.get)) λSQ=>
 bd (gF p (ah .gtr SQ (J 3))) λSR=>
 bd (pT p SR) λq=>
 bd (gF q (ab 4 b)) λSS=>
 bd (gF q (aa SS l.get)) λSU=>
 bd (gF q (ah .lss SU (J 0))) λSV=>
 bd (pT q SV) λg=>
 bd (gF g (ab 4 b)) λSW=>
 bd (gF g (aa SW l.get)) λSX=>
 bd (gF g (ab 5 b)) λSY=>
 bd (gF g (aa SY l.get)) λSZ=>
 bd (gF g (ah .geq SX SZ)) λS0=>
 bd (pT g S0) λr=>
 bd (gF r (ab 5 b)) λS1=>
 bd (gF r (aa S1 l.get)) λS2=>
 bd (gF r (ah .gtr S2 (J 1099511627776))) λS3=>
 bd (pT r S3) λS4=>
 br S4 (jR (B false) l)
 (nm [b,h] l)))
 (bd (ah .eql m (J 2)) λS5=>
 jn (br S5 (bd (ab 2 b) λS6=>
 bd (aa S6 c.get) λS7=>
 bd (ab 2 h) λS8=>
 ax (aj 1 S8 S7 c) λ_ S=>
 bd (ab 2 b) λS9=>
 bd (aa S9 S.get) λTa=>
 bd (ah .lss Ta (J 1)) λt=>
 bd (gF t (ab 2 b)) λTb=>
 bd (gF t (aa Tb S.get)) λTc=>
 bd (gF t (ah .gtr Tc (J 1073741824))) λTd=>
 bd (pT t Td) λTe=>
 br Te (jR (B false) S)
 (nm [b,h] S))
 (bd (ah .eql m (J 3)) λTf=>
 jn (br Tf (bd (ab 1 b) λTg=>
 bd (aa Tg c.get) λTh=>
 bd (ah .lss Th (J 1)) λTi=>
 br Ti (jR (B false) c)
 (nm [b,h] c))
 (bd (ah .eql m (J 4)) λTj=>
 br Tj (bd (ab 7 b) λTk=>
 bd (aa Tk c.get) λTl=>
 bd (ab 7 h) λTm=>
 ax (aj 1 Tm Tl c) λ_ y=>
 bd (ab 7 b) λTn=>
 bd (aa Tn y.get) λTo=>
 ax (kf 107 [To] y) λj U=>
 bd (ai j 0) λA=>
 bd (ai j 1) λC=>
 bd (ai j 2) λTp=>
 ax (aE U (a6 [iz,iz,iz,iz,iz,iz])) λTq V=>
 ax (aj 6 Tq A V) λ_ u=>
 bd (ah .neq C (J 0)) λe=>
 bd (gF e (ab 7 b)) λD=>
 bd (gF e (aa D u.get)) λE=>
 bd (gF e (aV E)) λF=>
 bd (gF e (ah .gtr F (J 300))) λG=>
 bd (pT e G) λH=>
 br H (jR (B false) u)
 (nm [b,h] u))
 (jR (B false) c)))
 (λM W=>nm [(vq M 0),(vq M 1)] W)
 jE
 jR))
 (λO X=>nm [(vq O 0),(vq O 1)] X)
 jE
 jR))
 (λP Y=>nm [(vq P 0),(vq P 1)] Y)
 jZ
 jR)
 (λQ v=>bd (ay 8 (vq Q 1) v.get) λI=>
 bd (ay 8 (vq Q 0) v.get) λK=>
 bd (lu (.a 8 [(0,.i),(1,.i),(2,.i),(3,.i),(4,.i),(5,.i),(6,.i),(7,.s)]) I K) λL=>
 some (L,v))
 jN
 jT)
theorem I8:fC 104 f104:=λd a0 s=>(ak rfl Tryz.func104 (by kernel_rfl)).trans (by generalize R d=c;kernel_rfl)
def fQ:gI:=λkf N v s=>
 bd (aG (vq v 0)) λSn=>
 bd (ah .lss (vq v 7) Sn) λSp=>
 br Sp (jn (bd (ar 8 (vq v 0) (vq v 7)) λSs=>
 bd (ay 8 Ss s.get) λSu=>
 ax (aE s (a6 [iz,iz,iz,iz,iz,iz,.int .u32 0,.str []])) λd s5=>
 ax (aj 8 d Su s5) λ_ s6=>
 bd (ab 2 d) λSv=>
 bd (aa Sv s6.get) λSw=>
 ax (kf 103 [(vq v 2),Sw] s6) λo s7=>
 jn (bd (ay 8 d s7.get) λSx=>
 ax (kf 104 [Sx] s7) λSy F=>
 bd (gH .not Sy) λSz=>
 jn (br Sz (nm [(vq v 0),(vq v 1),(vq v 2),(vq v 3),(vq v 4),(vq v 5),(vq v 7),d,(J 1),o] F)
 (bd (ab 0 d) λSA=>
 bd (aa SA F.get) λSB=>
 bd (ah .eql SB (J 1)) λq=>
 bd (gU q (some (vq v 3))) λSC=>
 bd (gU q (ab 2 d)) λSD=>
 bd (gU q (aa SD F.get)) λSE=>
 ax (gS (gd q true) F (kf 105 [SC,SE] F)) λSF z=>
 bd (pF q SF) λSG=>
 jn (br SG (nm [(vq v 0),(vq v 1),(vq v 2),(vq v 3),(vq v 4),(vq v 5),(vq v 7),d,(J 7),o] z)
 (bd (ab 0 d) λSH=>
 bd (aa SH z.get) λSI=>
 bd (ah .eql SI (J 2)) λy=>
 bd (gU y (some o)) λSJ=>
 bd (gU y (ah .lss SJ (J 0))) λSK=>
 bd (pF y SK) λSL=>
 jn (br SL (nm [(vq v 0),(vq v 1),(vq v 2),(vq v 3),(vq v 4),(vq v 5),(vq v 7),d,(J 9),o] z)
 (bd (ab 1 d) λSM=>
 bd (aa SM z.get) λSN=>
 bd (ah .lss SN (vq v 6)) λSO=>
 jn (br SO (nm [(vq v 0),(vq v 1),(vq v 2),(vq v 3),(vq v 4),(vq v 5),(vq v 7),d,(J 12),o] z)
 (nm [(vq v 0),(vq v 1),(vq v 2),(vq v 3),(vq v 4),(vq v 5),(vq v 7),d,(J 0),o] z))
 (λg P=>nm [(vq g 0),(vq g 1),(vq g 2),(vq g 3),(vq g 4),(vq g 5),(vq g 6),(vq g 7),(vq g 8),(vq g 9)] P)
 jE
 jR))
 (λh Q=>nm [(vq h 0),(vq h 1),(vq h 2),(vq h 3),(vq h 4),(vq h 5),(vq h 6),(vq h 7),(vq h 8),(vq h 9)] Q)
 jE
 jR))
 (λi R=>nm [(vq i 0),(vq i 1),(vq i 2),(vq i 3),(vq i 4),(vq i 5),(vq i 6),(vq i 7),(vq i 8),(vq i 9)] R)
 jE
 jR))
 (λc t=>nm [(vq c 0),(vq c 1),(vq c 2),(vq c 3),(vq c 4),(vq c 5),(vq c 6),(vq c 7),(vq c 8),(vq c 9)] t)
 (λA c t=>if A=2 then some (.normal c,t)else some (.exit A c,t))
 jR)
 (λa b=>bd (ah .neq (vq a 8) (J 0)) λSP=>
 br SP (bd (aO (aA [iz,iz,iz,iz,iz,iz] [])) λSQ=>
 ax (aj 6 (vq a 1) SQ b) λ_ E=>
 bd (rT (Z .av) (rC (ay 6 (vq a 1) E.get) (rT (J 0) (rT (vq a 8) (some []))))) λM=>bd (aD M) λO=>
 jR O E)
 (bd (ab 1 (vq a 7)) λSR=>
 bd (aa SR b.get) λr=>
 bd (ab 0 (vq a 7)) λSS=>
 bd (aa SS b.get) λx=>
 jn (bd (ah .eql x (J 1)) λSU=>
 jn (br SU (bd (ab 2 (vq a 7)) λSV=>
 bd (aa SV b.get) λSW=>
 ax (aE b (aN 1 (aA [iz] [(0,1,SW)]))) λSX S=>
 ax (aF 1 8 (vq a 3) SX S) λSY n=>
 bd (ab 2 (vq a 7)) λSZ=>
 bd (aa SZ n.get) λS0=>
 bd (ab 3 (vq a 7)) λS1=>
 bd (aa S1 n.get) λS2=>
 bd (ab 4 (vq a 7)) λS3=>
 bd (aa S3 n.get) λS4=>
 bd (ab 5 (vq a 7)) λS5=>
 bd (aa S5 n.get) λS6=>
 bd (ab 6 (vq a 7)) λS7=>
 bd (aa S7 n.get) λS8=>
 bd (aO (aA [iz,iz,iz,iz,.int .u32 0] [(0,1,S0),(1,1,S2),(2,1,S4),(3,1,S6),(4,1,S8)])) λS9=>
 ax (kf 106 [(vq a 2),S9] n) λTa T=>
 nm [(vq a 0),(vq a 1),Ta,SY,(vq a 4),(vq a 5),r,(vq a 6)] T)
 (bd (ah .eql x (J 2)) λTb=>
 jn (br Tb (ax (aE b (aN 0 (aA [] []))) λTc U=>
 bd (aB 5 (vq a 2) none (some (vq a 9)) none) λTd=>
 ax (aF 5 40 Tc Td U) λTe V=>
 bd (ah .add (vq a 9) (J 1)) λTf=>
 bd (aB 5 (vq a 2) (some Tf) none none) λTg=>
 ax (aF 5 40 Te Tg V) λTh W=>
 nm [(vq a 0),(vq a 1),Th,(vq a 3),(vq a 4),(vq a 5),r,(vq a 6)] W)
 (bd (ah .eql x (J 3)) λTi=>
 jn (br Ti (bd (ab 1 (vq a 7)) λTj=>
 bd (aa Tj b.get) λG=>
 nm [(vq a 0),(vq a 1),(vq a 2),(vq a 3),(vq a 4),G,r,(vq a 6)] b)
 (bd (ah .eql x (J 4)) λH=>
 jn (br H (bd (ab 7 (vq a 7)) λI=>
 bd (aa I b.get) λK=>
 ax (kf 107 [K] b) λp X=>
 bd (ai p 0) λL=>
 bd (ai p 1) λTk=>
 bd (ai p 2) λTl=>
 ax (aj 6 (vq a 4) L X) λ_ Y=>
 nm [(vq a 0),(vq a 1),(vq a 2),(vq a 3),(vq a 4),(vq a 5),r,(vq a 6)] Y)
 (nm [(vq a 0),(vq a 1),(vq a 2),(vq a 3),(vq a 4),(vq a 5),r,(vq a 6)] b))
 (λj Sj=>nm [(vq j 0),(vq j 1),(vq j 2),(vq j 3),(vq j 4),(vq j 5),(vq j 6),(vq j 7)] Sj)
 jE
 jR))
 (λk Sk=>nm [(vq k 0),(vq k 1),(vq k 2),(vq k 3),(vq k 4),(vq k 5),(vq k 6),(vq k 7)] Sk)
 jE
 jR))
 (λl Sl=>nm [(vq l 0),(vq l 1),(vq l 2),(vq l 3),(vq l 4),(vq l 5),(vq l 6),(vq l 7)] Sl)
 jE
 jR))
 (λe u=>nm [(vq e 0),(vq e 1),(vq e 2),(vq e 3),(vq e 4),(vq e 5),(vq e 6),(vq e 7)] u)
 (λC e u=>if C=3 then some (.normal e,u)else some (.exit C e,u))
 jR)
 (λf w=>nm [(vq f 0),(vq f 1),(vq f 2),(vq f 3),(vq f 4),(vq f 5),(vq f 6),(vq f 7)] w)
 (λD f w=>if D=1 then some (.normal f,w)else some (.exit D f,w))
 jR))
 (λB a b=>if B=1 then some (.normal a,b)else some (.exit B a,b))
 jR)
 (λm Sm=>bd (ah .add (vq m 7) (J 1)) λSr=>
 nm [(vq m 0),(vq m 1),(vq m 2),(vq m 3),(vq m 4),(vq m 5),(vq m 6),Sr] Sm)
 jE
 jR)
 (jE 0 [(vq v 1),(vq v 2),(vq v 4),(vq v 5)] s)
def f57:fh:=λkf N a0 s=>
 ax (aE s (a6 [iz,iz,iz,iz,iz,iz])) λm i=>
 ax (kf 102 [] i) λg j=>
 ax (aE j (a6 [iz,iz,iz,iz,iz,iz])) λh k=>
 ax (aj 6 h g k) λ_ l=>
 jn (jn (loops (fQ kf N) N [a0,m,(Z .av),(Z .av),h,(J 0),(J 0),(J 0)] l)
 (jM [.any,.any,.any,.any])
 jZ
 jR)
 (λa b=>bd (ay 6 (vq a 2) b.get) λd=>
 ax (aj 6 (vq a 0) d b) λ_ c=>
 bd (rT (vq a 1) (rC (ay 6 (vq a 0) c.get) (rT (vq a 3) (rT (J 0) (some []))))) λe=>bd (aD e) λf=>
 some (f,c))
 jN
 jT
theorem Nt:fC 57 f57:=λd a0 s=>(ak rfl Tryz.func57 (by kernel_rfl)).trans (by generalize R d=c;kernel_rfl)
def vk:gI:=λkf N v s=>
 bd (aG (vq v 0)) λb=>
 bd (ah .lss (vq v 2) b) λc=>
 br c (jn (bd (ar 5 (vq v 0) (vq v 2)) λe=>
 bd (ay 5 e s.get) λf=>
 bd (ar 5 (vq v 1) (vq v 2)) λg=>
 bd (ay 5 g s.get) λh=>
 bd (xN (.a 5 [(0,.i),(1,.i),(2,.i),(3,.i),(4,.i)]) f h) λj=>
 br j (jR (B false) s)
 (nm [(vq v 0),(vq v 1),(vq v 2)] s))
 (λv1 k=>bd (ah .add (vq v1 2) (J 1)) λd=>
 nm [(vq v1 0),(vq v1 1),d] k)
 jE
 jR)
 (jE 0 [] s)
def f66:iA:=λkf N a0 c s=>
 bd (aG a0) λd=>
 bd (aG c) λe=>
 bd (ah .neq d e) λb=>
 br b (some ((B false),s))
 (jn (jn (loops (vk kf N) N [a0,c,(J 0)] s)
 (jM [])
 jZ
 jR)
 (λf a=>some ((B true),a))
 jN
 jT)
theorem NA:iB 66 f66:=λd a0 a s=>(ak rfl Tryz.func66 (by kernel_rfl)).trans (by generalize R d=c;kernel_rfl)
def qp:gI:=λkf N v s=>
 bd (aG (vq v 0)) λg=>
 bd (ah .lss (vq v 2) g) λh=>
 br h (jn (bd (ar 5 (vq v 0) (vq v 2)) λb=>
 bd (ab 0 b) λc=>
 bd (aa c s.get) λd=>
 bd (ah .eql d (vq v 1)) λe=>
 br e (jR (vq v 2) s)
 (nm [(vq v 0),(vq v 1),(vq v 2)] s))
 (λv1 f=>bd (ah .add (vq v1 2) (J 1)) λa=>
 nm [(vq v1 0),(vq v1 1),a] f)
 jE
 jR)
 (jE 0 [] s)
def f103:iA:=λkf N a0 b s=>
 jn (jn (loops (qp kf N) N [a0,b,(J 0)] s)
 (jM [])
 jZ
 jR)
 (λc a=>some ((J (-1)),a))
 jN
 jT
theorem I7:iB 103 f103:=λd a0 a s=>(ak rfl Tryz.func103 (by kernel_rfl)).trans (by generalize R d=c;kernel_rfl)
def qq:gI:=λkf N v s=>
 bd (aG (vq v 0)) λf=>
 bd (ah .lss (vq v 2) f) λg=>
 br g (jn (bd (ar 1 (vq v 0) (vq v 2)) λb=>
 bd (aa b s.get) λc=>
 bd (ah .eql c (vq v 1)) λd=>
 br d (jR (B true) s)
 (nm [(vq v 0),(vq v 1),(vq v 2)] s))
 (λv1 e=>bd (ah .add (vq v1 2) (J 1)) λa=>
 nm [(vq v1 0),(vq v1 1),a] e)
 jE
 jR)
 (jE 0 [] s)
def f105:iA:=λkf N a0 b s=>
 jn (jn (loops (qq kf N) N [a0,b,(J 0)] s)
 (jM [])
 jZ
 jR)
 (λc a=>some ((B false),a))
 jN
 jT
theorem I9:iB 105 f105:=λd a0 a s=>(ak rfl Tryz.func105 (by kernel_rfl)).trans (by generalize R d=c;kernel_rfl)
def qs:gI:=λkf N v s=>
 bd (aG (vq v 0)) λn=>
 bd (ah .lss (vq v 2) n) λa=>
 bd (gU a (some (vq v 0))) λb=>
 bd (gU a (some (vq v 2))) λc=>
 bd (gU a (ar 5 b c)) λd=>
 bd (gU a (ab 0 d)) λe=>
 bd (gU a (aa e s.get)) λf=>
 bd (gU a (ab 0 (vq v 1))) λg=>
 bd (gU a (aa g s.get)) λh=>
 bd (gU a (ah .lss f h)) λi=>
 bd (pF a i) λj=>
 br j (jn (bd (ah .add (vq v 2) (J 1)) λk=>
 nm [(vq v 0),(vq v 1),k] s)
 (λl m=>nm [(vq l 0),(vq l 1),(vq l 2)] m)
 jE
 jR)
 (jE 0 [(vq v 0),(vq v 1),(vq v 2)] s)
def f106:iA:=λkf N a0 p s=>
 ax (aE s (b6 p)) λr q=>
 jn (jn (loops (qs kf N) N [a0,r,(J 0)] q)
 (jM [.any,.any,.any])
 jZ
 jR)
 (λa c=>ax (aE c (aN 0 (aA [] []))) λh d=>
 bd (aB 5 (vq a 0) none (some (vq a 2)) none) λi=>
 ax (aF 5 40 h i d) λj b=>
 bd (ay 5 (vq a 1) b.get) λk=>
 ax (aE b (aN 1 (aA [iz,iz,iz,iz,.int .u32 0] [(0,5,k)]))) λl e=>
 ax (aF 5 40 j l e) λm f=>
 bd (aB 5 (vq a 0) (some (vq a 2)) none none) λn=>
 ax (aF 5 40 m n f) λo g=>
 some (o,g))
 jN
 jT
theorem Ja:iB 106 f106:=λd a0 a s=>(ak rfl Tryz.func106 (by kernel_rfl)).trans (by generalize R d=c;kernel_rfl)
def f141:iA:=λkf N a0 c s=>
 bd (ah .gtr a0 c) λd=>
 br d (bd (az .i64 c) λe=>
 bd (ah .add e (J 1)) λa=>
 some (a,s))
 (bd (az .i64 a0) λb=>
 some (b,s))
theorem Js:iB 141 f141:=λd a0 a s=>(ak rfl Tryz.func141 (by kernel_rfl)).trans (by generalize R d=c;kernel_rfl)
end
noncomputable section
def f196:fh:=λkf N a0 s=>
 bd (ah .lss a0 (J 0)) λc=>
 br c (bd (gH .xor a0) λd=>
 bd (az .u64 d) λe=>
 bd (ah .shl e (J6 1)) λf=>
 bd (ah .or f (J6 1)) λg=>
 some (g,s))
 (bd (az .u64 a0) λa=>
 bd (ah .shl a (J6 1)) λb=>
 some (b,s))
theorem JY:fC 196 f196:=λd a0 s=>(ak rfl Tryz.func196 (by kernel_rfl)).trans (by generalize R d=c;kernel_rfl)
def f154:fh:=λkf N a0 s=>
 bd (ah .and a0 (J6 1)) λc=>
 bd (ah .eql c (J6 1)) λd=>
 br d (bd (ah .shr a0 (J6 1)) λe=>
 bd (az .i64 e) λf=>
 bd (gH .xor f) λg=>
 some (g,s))
 (bd (ah .shr a0 (J6 1)) λa=>
 bd (az .i64 a) λb=>
 some (b,s))
theorem JC:fC 154 f154:=λd a0 s=>(ak rfl Tryz.func154 (by kernel_rfl)).trans (by generalize R d=c;kernel_rfl)
def oK:gI:=λkf N v s=>
 bd (ah .lss (vq v 3) (vq v 2)) λq=>
 br q (jn (bd (ar 2 (vq v 1) (vq v 3)) λd=>
 bd (ay 2 d s.get) λe=>
 ax (aE s (a6 [iz,iz])) λc o=>
 ax (aj 2 c e o) λ_ b=>
 bd (ab 0 c) λf=>
 bd (aa f b.get) λg=>
 bd (ah .leq g (vq v 0)) λa=>
 bd (gF a (ab 0 c)) λh=>
 bd (gF a (aa h b.get)) λi=>
 bd (gF a (ah .gtr i (J 1099511627776))) λj=>
 bd (pT a j) λk=>
 br k (jR (B false) b)
 (bd (ab 0 c) λl=>
 bd (aa l b.get) λm=>
 nm [m,(vq v 1),(vq v 2),(vq v 3)] b))
 (λv3 p=>bd (ah .add (vq v3 3) (J 1)) λn=>
 nm [(vq v3 0),(vq v3 1),(vq v3 2),n] p)
 jE
 jR)
 (jE 0 [] s)
def f195:fh:=λkf N a0 s=>
 bd (aG a0) λb=>
 jn (jn (loops (oK kf N) N [(J (-1)),a0,b,(J 0)] s)
 (jM [])
 jZ
 jR)
 (λc a=>some ((B true),a))
 jN
 jT
theorem JX:fC 195 f195:=λd a0 s=>(ak rfl Tryz.func195 (by kernel_rfl)).trans (by generalize R d=c;kernel_rfl)
def oI:gI:=λkf N v s=>
 bd (ah .lss (vq v 5) (vq v 4)) λq=>
 br q (jn (bd (ar 2 (vq v 3) (vq v 5)) λr=>
 bd (ay 2 r s.get) λt=>
 ax (aE s (a6 [iz,iz])) λj s4=>
 ax (aj 2 j t s4) λ_ f=>
 bd (ah .eql (vq v 5) (J 0)) λu=>
 br u (bd (ab 0 j) λw=>
 bd (aa w f.get) λx=>
 bd (az .u64 x) λy=>
 ax (kf 159 [y] f) λz s6=>
 ax (aF 1 1 (vq v 1) z s6) λA k=>
 bd (ab 1 j) λe=>
 bd (aa e k.get) λB=>
 ax (kf 196 [B] k) λC s8=>
 ax (kf 159 [C] s8) λD s9=>
 ax (aF 1 1 A D s9) λE l=>
 ck ((decide (aa e f.get=aa e k.get)&&(decide (aa e s6.get=aa e k.get)&&true))&&true) (nm [(vq v 0),E,(vq v 2),(vq v 3),(vq v 4),(vq v 5)] l))
 (bd (ab 0 j) λF=>
 bd (aa F f.get) λG=>
 bd (ah .sub (vq v 5) (J 1)) λH=>
 bd (ar 2 (vq v 0) H) λI=>
 bd (ab 0 I) λK=>
 bd (aa K f.get) λL=>
 bd (ah .sub G L) λi=>
 bd (ah .sub i (vq v 2)) λM=>
 ax (kf 196 [M] f) λO g=>
 ax (kf 159 [O] g) λP h=>
 ax (aF 1 1 (vq v 1) P h) λQ a=>
 bd (ab 1 j) λb=>
 bd (aa b a.get) λR=>
 bd (ah .sub (vq v 5) (J 1)) λS=>
 bd (ar 2 (vq v 0) S) λT=>
 bd (ab 1 T) λc=>
 bd (aa c a.get) λU=>
 bd (ah .sub R U) λV=>
 ax (kf 196 [V] a) λW m=>
 ax (kf 159 [W] m) λX n=>
 ax (aF 1 1 Q X n) λY o=>
 ck ((decide (aa b f.get=aa b a.get)&&(decide (aa b g.get=aa b a.get)&&(decide (aa b h.get=aa b a.get)&&true)))&&((decide (aa c f.get=aa c a.get)&&(decide (aa c g.get=aa c a.get)&&(decide (aa c h.get=aa c a.get)&&true)))&&true)) (nm [(vq v 0),Y,i,(vq v 3),(vq v 4),(vq v 5)] o)))
 (λd p=>bd (ah .add (vq d 5) (J 1)) λZ=>
 nm [(vq d 0),(vq d 1),(vq d 2),(vq d 3),(vq d 4),Z] p)
 jE
 jR)
 (jE 0 [(vq v 1)] s)
def f155:fh:=λkf N a0 s=>
 ax (kf 195 [a0] s) λd n=>
 bd (gH .not d) λa=>
 bd (gF a (some a0)) λe=>
 bd (gF a (aG e)) λf=>
 bd (gF a (ah .gtr f (J 64))) λg=>
 bd (pT a g) λh=>
 br h (bd (aD [(Z .av),(J 1)]) λo=>
 some (o,n))
 (bd (aG a0) λi=>
 bd (az .u64 i) λj=>
 ax (kf 159 [j] n) λk p=>
 bd (aG a0) λl=>
 jn (jn (loops (oI kf N) N [a0,k,(J 0),a0,l,(J 0)] p)
 (jM [.any])
 jZ
 jR)
 (λm c=>bd (aD [(vq m 0),(J 0)]) λb=>
 some (b,c))
 jN
 jT)
theorem Bd:fC 155 f155:=λd a0 s=>(ak rfl Tryz.func155 (by kernel_rfl)).trans (by generalize R d=c;kernel_rfl)
def lB:gI:=λkf N v s=>
 bd (ah .lss (vq v 5) (vq v 4)) λm=>
 br m (jn (bd (ba (vq v 1)) λn=>
 bd (ab 2 n) λo=>
 bd (aa o s.get) λp=>
 br p (jE 0 [(vq v 0),(vq v 1),(vq v 2)] s)
 (bd (ah .eql (vq v 5) (J 0)) λq=>
 br q (ax (kf 153 [(vq v 1)] s) λr S=>
 bd (az .i64 r) λt=>
 ax (kf 153 [(vq v 1)] S) λu T=>
 ax (kf 154 [u] T) λw U=>
 bd (aO (aA [iz,iz] [(0,1,t),(1,1,w)])) λx=>
 ax (aE U (aN 1 (aA [iz,iz] [(0,2,x)]))) λy s6=>
 ax (aF 2 16 (vq v 2) y s6) λz V=>
 nm [(vq v 0),(vq v 1),z,(vq v 3),(vq v 4),(vq v 5)] V)
 (ax (kf 153 [(vq v 1)] s) λA W=>
 ax (kf 154 [A] W) λB R=>
 bd (ah .add (vq v 3) B) λh=>
 bd (ah .sub (vq v 5) (J 1)) λC=>
 bd (ar 2 (vq v 2) C) λD=>
 bd (ay 2 D R.get) λE=>
 ax (aE R (a6 [iz,iz])) λQ i=>
 ax (aj 2 Q E i) λ_ a=>
 bd (ab 0 Q) λd=>
 bd (aa d a.get) λF=>
 bd (ah .add F h) λG=>
 bd (ab 1 Q) λe=>
 bd (aa e a.get) λH=>
 ax (kf 153 [(vq v 1)] a) λI g=>
 ax (kf 154 [I] g) λK b=>
 bd (ah .add H K) λL=>
 bd (aO (aA [iz,iz] [(0,1,G),(1,1,L)])) λf=>
 ax (aE b (aN 1 (aA [iz,iz] [(0,2,f)]))) λM j=>
 ax (aF 2 16 (vq v 2) M j) λO k=>
 ck ((decide (aa d (cl 9 g.get (wC 12 b.size (aN 1 (aA [iz,iz] [(0,2,f)])) []))=aa d a.get)&&(decide (aa d (cl 10 b.get (wC 12 b.size (aN 1 (aA [iz,iz] [(0,2,f)])) []))=aa d a.get)&&true))&&((decide (aa e (cl 9 g.get (wC 12 b.size (aN 1 (aA [iz,iz] [(0,2,f)])) []))=aa e a.get)&&(decide (aa e (cl 10 b.get (wC 12 b.size (aN 1 (aA [iz,iz] [(0,2,f)])) []))=aa e a.get)&&true))&&true)) (nm [(vq v 0),(vq v 1),O,h,(vq v 4),(vq v 5)] k))))
 (λc l=>bd (ah .add (vq c 5) (J 1)) λP=>
 nm [(vq c 0),(vq c 1),(vq c 2),(vq c 3),(vq c 4),P] l)
 jE
 jR)
 (jE 0 [(vq v 0),(vq v 1),(vq v 2)] s)
def f119:fh:=λkf N a0 s=>
 bd (aO (aA [.av,iz,.bool false] [(0,1,a0)])) λk=>
 ax (aE s (b6 k)) λf y=>
 ax (kf 152 [f,(J 64)] y) λl z=>
 jn (jn (loops (lB kf N) N [a0,f,(Z .av),(J 0),l,(J 0)] z)
 (jM [.any,.any,.any])
 jZ
 jR)
 (λb j=>ax (kf 155 [(vq b 2)] j) λg c=>
 bd (ai g 0) λm=>
 bd (ai g 1) λn=>
 bd (ba (vq b 1)) λo=>
 bd (ab 2 o) λp=>
 bd (aa p c.get) λd=>
 bd (gF d (some n)) λq=>
 bd (gF d (ah .neq q (J 0))) λr=>
 bd (pT d r) λa=>
 bd (gF a (some m)) λt=>
 bd (gF a (some (vq b 0))) λu=>
 ax (gS (gd a false) c (kf 122 [t,u] c)) λv e=>
 bd (gF a (gH .not v)) λw=>
 bd (pT a w) λx=>
 br x (bd (aD [(Z .av),(J 2)]) λh=>
 some (h,e))
 (bd (aD [(vq b 2),(J 0)]) λi=>
 some (i,e)))
 jN
 jT
theorem Jk:fC 119 f119:=λd a0 s=>(ak rfl Tryz.func119 (by kernel_rfl)).trans (by generalize R d=c;kernel_rfl)
def f153:fh:=λkf N a0 s=>
 bd (ba a0) λr=>
 bd (ab 0 r) λt=>
 bd (aa t s.get) λd=>
 bd (ba a0) λe=>
 bd (ab 1 e) λf=>
 bd (aa f s.get) λg=>
 ax (kf 118 [d,g] s) λa n=>
 bd (ai a 0) λb=>
 bd (ai a 1) λc=>
 bd (ai a 2) λh=>
 bd (ah .neq h (J 0)) λi=>
 jn (br i (bd (ba a0) λj=>
 bd (ab 2 j) λk=>
 ax (aj 1 k (B true) n) λ_ o=>
 nm [a0,b,c] o)
 (nm [a0,b,c] n))
 (λv3 p=>bd (ba (vq v3 0)) λl=>
 bd (ab 1 l) λm=>
 ax (aj 1 m (vq v3 2) p) λ_ q=>
 some ((vq v3 1),q))
 jN
 jT
theorem JB:fC 153 f153:=λd a0 s=>(ak rfl Tryz.func153 (by kernel_rfl)).trans (by generalize R d=c;kernel_rfl)
def f152:iA:=λkf N a0 h s=>
 ax (kf 153 [a0] s) λg f=>
 bd (az .u64 h) λa=>
 bd (ah .gtr g a) λb=>
 br b (bd (ba a0) λc=>
 bd (ab 2 c) λd=>
 ax (aj 1 d (B true) f) λ_ i=>
 some ((J 0),i))
 (bd (az .i64 g) λe=>
 some (e,f))
theorem JA:iB 152 f152:=λd a0 a s=>(ak rfl Tryz.func152 (by kernel_rfl)).trans (by generalize R d=c;kernel_rfl)
def f199:QY:=λkf N a0 v w x s=>
 bd (ah .geq a0 (J 1)) λb=>
 bd (gU b (some a0)) λg=>
 bd (gU b (ah .leq g (J 1073741824))) λh=>
 bd (pF b h) λc=>
 bd (gU c (some v)) λi=>
 bd (gU c (ah .geq i (J 0))) λj=>
 bd (pF c j) λd=>
 bd (gU d (some v)) λk=>
 bd (gU d (ah .lss k (J 4))) λl=>
 bd (pF d l) λe=>
 bd (gU e (some w)) λm=>
 bd (gU e (ah .geq m (J 0))) λn=>
 bd (pF e n) λa=>
 bd (gU a (some w)) λo=>
 bd (gU a (some x)) λp=>
 bd (gU a (ah .lss o p)) λq=>
 bd (pF a q) λf=>
 bd (gU f (some x)) λr=>
 bd (gU f (ah .leq r (J 1099511627776))) λt=>
 bd (pF f t) λu=>
 some (u,s)
theorem J1:Rs 199 f199:=λd a0 a b e s=>(ak rfl Tryz.func199 (by kernel_rfl)).trans (by generalize R d=c;kernel_rfl)
def f158:fh:=λkf N a0 s=>
 ax (aE s (b6 a0)) λd u=>
 bd (ab 0 d) λt5=>
 bd (aa t5 u.get) λt6=>
 bd (ab 1 d) λt7=>
 bd (aa t7 u.get) λt8=>
 bd (ab 2 d) λt9=>
 bd (aa t9 u.get) λD=>
 bd (ab 3 d) λE=>
 bd (aa E u.get) λF=>
 ax (kf 199 [t6,t8,D,F] u) λG f=>
 bd (gH .not G) λH=>
 br H (some ((B false),f))
 (bd (ab 1 d) λI=>
 bd (aa I f.get) λK=>
 bd (ah .eql K (J 0)) λL=>
 br L (bd (ab 4 d) λM=>
 bd (aa M f.get) λO=>
 bd (aG O) λk=>
 bd (ab 5 d) λP=>
 bd (aa P f.get) λQ=>
 bd (aG Q) λR=>
 bd (ah .eql R (J 0)) λl=>
 bd (gU l (some k)) λS=>
 bd (gU l (ah .geq S (J 1))) λT=>
 bd (pF l T) λm=>
 bd (gU m (some k)) λU=>
 bd (gU m (ah .leq U (J 64))) λV=>
 bd (pF m V) λh=>
 bd (gU h (ab 4 d)) λW=>
 bd (gU h (aa W f.get)) λX=>
 ax (gS (gd h true) f (kf 195 [X] f)) λY j=>
 bd (pF h Y) λe=>
 bd (gU e (ab 4 d)) λZ=>
 bd (gU e (aa Z j.get)) λSj=>
 bd (gU e (ar 2 Sj (J 0))) λSk=>
 bd (gU e (ab 0 Sk)) λSl=>
 bd (gU e (aa Sl j.get)) λSm=>
 bd (gU e (ab 2 d)) λSn=>
 bd (gU e (aa Sn j.get)) λSp=>
 bd (gU e (ah .geq Sm Sp)) λSr=>
 bd (pF e Sr) λb=>
 bd (gU b (ab 4 d)) λSs=>
 bd (gU b (aa Ss j.get)) λSu=>
 bd (gU b (some k)) λSv=>
 bd (gU b (ah .sub Sv (J 1))) λSw=>
 bd (gU b (ar 2 Su Sw)) λSx=>
 bd (gU b (ab 0 Sx)) λSy=>
 bd (gU b (aa Sy j.get)) λSz=>
 bd (gU b (ab 3 d)) λSA=>
 bd (gU b (aa SA j.get)) λSB=>
 bd (gU b (ah .lss Sz SB)) λSC=>
 bd (pF b SC) λSD=>
 some (SD,j))
 (bd (ab 5 d) λSE=>
 bd (aa SE f.get) λSF=>
 bd (aG SF) λn=>
 bd (ab 4 d) λSG=>
 bd (aa SG f.get) λSH=>
 bd (aG SH) λSI=>
 bd (ah .eql SI (J 0)) λo=>
 bd (gU o (some n)) λSJ=>
 bd (gU o (ah .geq SJ (J 1))) λSK=>
 bd (pF o SK) λp=>
 bd (gU p (some n)) λSL=>
 bd (gU p (ah .leq SL (J 64))) λSM=>
 bd (pF p SM) λg=>
 bd (gU g (ab 5 d)) λSN=>
 bd (gU g (aa SN f.get)) λSO=>
 bd (gU g (ab 1 d)) λSP=>
 bd (gU g (aa SP f.get)) λSQ=>
 ax (gS (gd g true) f (kf 197 [SO,SQ] f)) λSR i=>
 bd (pF g SR) λa=>
 bd (gU a (ab 5 d)) λq=>
 bd (gU a (aa q i.get)) λSS=>
 bd (gU a (ar 7 SS (J 0))) λSU=>
 bd (gU a (ab 0 SU)) λr=>
 bd (gU a (aa r i.get)) λSV=>
 bd (gU a (ab 2 d)) λSW=>
 bd (gU a (aa SW i.get)) λSX=>
 bd (gU a (ab 1 d)) λSY=>
 bd (gU a (aa SY i.get)) λSZ=>
 ax (gS (gd a true) i (kf 200 [SX,SZ] i)) λS0 t=>
 bd (gU a (ah .geq SV S0)) λS1=>
 bd (pF a S1) λc=>
 bd (gU c (ab 5 d)) λS2=>
 bd (gU c (aa S2 t.get)) λS3=>
 bd (gU c (some n)) λS4=>
 bd (gU c (ah .sub S4 (J 1))) λS5=>
 bd (gU c (ar 7 S3 S5)) λv=>
 bd (gU c (ab 0 v)) λw=>
 bd (gU c (aa w t.get)) λx=>
 bd (gU c (ab 3 d)) λy=>
 bd (gU c (aa y t.get)) λz=>
 bd (gU c (ah .lss x z)) λA=>
 bd (pF c A) λC=>
 ck ((wq (gd a true) (decide (aa q t.get=aa q i.get))&&true)&&((wq (gd a true) (decide (aa r t.get=aa r i.get))&&true)&&true)) (some (C,t))))
theorem JE:fC 158 f158:=λd a0 s=>(ak rfl Tryz.func158 (by kernel_rfl)).trans (by generalize R d=c;kernel_rfl)
def f160:fh:=λkf N a0 s=>
 bd (az .u8 a0) λf=>
 bd (ah .shr a0 (J6 8)) λg=>
 bd (az .u8 g) λh=>
 bd (ah .shr a0 (J6 16)) λi=>
 bd (az .u8 i) λa=>
 bd (ah .shr a0 (J6 24)) λb=>
 bd (az .u8 b) λc=>
 ax (aE s (aN 4 (aA [.int .u8 0,.int .u8 0,.int .u8 0,.int .u8 0] [(0,1,f),(1,1,h),(2,1,a),(3,1,c)]))) λd e=>
 some (d,e)
theorem JG:fC 160 f160:=λd a0 s=>(ak rfl Tryz.func160 (by kernel_rfl)).trans (by generalize R d=c;kernel_rfl)
def qt:gI:=λkf N v s=>
 bd (ah .lss (vq v 4) (vq v 3)) λb=>
 br b (jn (bd (ar 1 (vq v 2) (vq v 4)) λc=>
 bd (aa c s.get) λd=>
 ax (kf 159 [d] s) λe s6=>
 ax (aF 1 1 (vq v 1) e s6) λf h=>
 nm [(vq v 0),f,(vq v 2),(vq v 3),(vq v 4)] h)
 (λa i=>bd (ah .add (vq a 4) (J 1)) λg=>
 nm [(vq a 0),(vq a 1),(vq a 2),(vq a 3),g] i)
 jE
 jR)
 (jE 0 [(vq v 0),(vq v 1)] s)
def f121:fh:=λkf N a0 s=>
 ax (aE s (b6 a0)) λd s1=>
 bd (ay 6 d s1.get) λt9=>
 ax (kf 158 [t9] s1) λv s2=>
 bd (gH .not v) λw=>
 br w (bd (aD [(Z .av),(J 1)]) λr3=>
 some (r3,s2))
 (ax (aE s2 (aN 2 (aA [.int .u8 0,.int .u8 0] [(0,1,(J8 84)),(1,1,(J8 75))]))) λx e=>
 bd (ab 0 d) λy=>
 bd (aa y e.get) λz=>
 bd (az .u64 z) λA=>
 bd (ab 1 d) λB=>
 bd (aa B e.get) λC=>
 bd (az .u64 C) λD=>
 bd (ab 2 d) λE=>
 bd (aa E e.get) λF=>
 bd (az .u64 F) λG=>
 bd (ab 3 d) λH=>
 bd (aa H e.get) λI=>
 bd (ab 2 d) λK=>
 bd (aa K e.get) λL=>
 bd (ah .sub I L) λM=>
 bd (az .u64 M) λO=>
 ax (aE e (aN 4 (aA [.int .u64 0,.int .u64 0,.int .u64 0,.int .u64 0] [(0,1,A),(1,1,D),(2,1,G),(3,1,O)]))) λi s5=>
 bd (aG i) λP=>
 jn (jn (loops (qt kf N) N [d,x,i,P,(J 0)] s5)
 (jM [.any,.any])
 jZ
 jR)
 (λa f=>bd (ab 4 (vq a 0)) λQ=>
 bd (aa Q f.get) λR=>
 ax (kf 155 [R] f) λj b=>
 bd (ai j 0) λS=>
 bd (ai j 1) λT=>
 bd (ab 1 (vq a 0)) λU=>
 bd (aa U b.get) λV=>
 bd (ah .gtr V (J 0)) λW=>
 jn (br W (bd (ab 5 (vq a 0)) λX=>
 bd (aa X b.get) λY=>
 bd (ab 1 (vq a 0)) λSj=>
 bd (aa Sj b.get) λSk=>
 ax (kf 157 [Y,Sk] b) λk q=>
 bd (ai k 0) λSl=>
 bd (ai k 1) λSm=>
 nm [(vq a 1),Sl,Sm] q)
 (nm [(vq a 1),S,T] b))
 (λc g=>bd (ah .neq (vq c 2) (J 0)) λSn=>
 br Sn (bd (aD [(Z .av),(vq c 2)]) λn=>
 some (n,g))
 (ax (aF 1 1 (vq c 0) (vq c 1) g) λl r=>
 ax (kf 161 [l] r) λSp t=>
 ax (kf 160 [Sp] t) λSr u=>
 ax (aF 1 1 l Sr u) λm h=>
 bd (aG m) λSs=>
 bd (ah .gtr Ss (J 4000)) λSu=>
 br Su (bd (aD [(Z .av),(J 8)]) λo=>
 some (o,h))
 (bd (aD [m,(J 0)]) λp=>
 some (p,h))))
 jN
 jT)
 jN
 jT)
theorem ve:fC 121 f121:=λd a0 s=>(ak rfl Tryz.func121 (by kernel_rfl)).trans (by generalize R d=c;kernel_rfl)
def lS:gI:=λkf N v s=>
 bd (ah .lss (vq v 5) (J 4)) λg=>
 br g (jn (bd (aB 1 (vq v 0) none (some (vq v 2)) none) λh=>
 ax (kf 118 [h,(vq v 4)] s) λb s6=>
 bd (ai b 0) λd=>
 bd (ai b 1) λi=>
 bd (ai b 2) λj=>
 bd (ah .neq j (J 0)) λc=>
 bd (gF c (some d)) λk=>
 bd (gF c (ah .gtr k (J6 1099511627776))) λl=>
 bd (pT c l) λm=>
 br m (bd (aO (aA [iz,iz,iz,iz,.av,.av] [])) λn=>
 ax (aj 6 (vq v 1) n s6) λ_ q=>
 bd (rC (ay 6 (vq v 1) q.get) (rT (J 2) (some []))) λr=>bd (aD r) λt=>
 jR t q)
 (bd (bz 4 1 (vq v 3) (vq v 5)) λo=>
 ax (aj 1 o d s6) λ_ e=>
 nm [(vq v 0),(vq v 1),(vq v 2),(vq v 3),i,(vq v 5)] e))
 (λa f=>bd (ah .add (vq a 5) (J 1)) λp=>
 nm [(vq a 0),(vq a 1),(vq a 2),(vq a 3),(vq a 4),p] f)
 jE
 jR)
 (jE 0 [(vq v 0),(vq v 1),(vq v 2),(vq v 3),(vq v 4)] s)
def f81:fh:=λkf N a0 s=>
 ax (aE s (a6 [iz,iz,iz,iz,.av,.av])) λQ D=>
 bd (aG a0) λP=>
 bd (ah .sub P (J 4)) λz=>
 bd (ah .lss z (J 2)) λg=>
 bd (gF g (some a0)) λR=>
 bd (gF g (ar 1 R (J 0))) λS=>
 bd (gF g (aa S D.get)) λT=>
 bd (gF g (ah .neq T (J8 84))) λU=>
 bd (pT g U) λh=>
 bd (gF h (some a0)) λV=>
 bd (gF h (ar 1 V (J 1))) λW=>
 bd (gF h (aa W D.get)) λX=>
 bd (gF h (ah .neq X (J8 75))) λY=>
 bd (pT h Y) λZ=>
 br Z (bd (aO (aA [iz,iz,iz,iz,.av,.av] [])) λSj=>
 ax (aj 6 Q Sj D) λ_ s2=>
 bd (rC (ay 6 Q s2.get) (rT (J 2) (some []))) λl3=>bd (aD l3) λr4=>
 some (r4,s2))
 (ax (aE D (a6 [.int .u64 0,.int .u64 0,.int .u64 0,.int .u64 0])) λt5 s5=>
 jn (jn (loops (lS kf N) N [a0,Q,z,t5,(J 2),(J 0)] s5)
 (jM [.any,.any,.any,.any,.any])
 jZ
 jR)
 (λa e=>bd (bz 4 1 (vq a 3) (J 0)) λSk=>
 bd (aa Sk e.get) λSl=>
 bd (az .i64 Sl) λSm=>
 bd (bz 4 1 (vq a 3) (J 1)) λSn=>
 bd (aa Sn e.get) λSp=>
 bd (az .i64 Sp) λSr=>
 bd (bz 4 1 (vq a 3) (J 2)) λSs=>
 bd (aa Ss e.get) λSu=>
 bd (az .i64 Su) λSv=>
 bd (bz 4 1 (vq a 3) (J 2)) λSw=>
 bd (aa Sw e.get) λSx=>
 bd (bz 4 1 (vq a 3) (J 3)) λSy=>
 bd (aa Sy e.get) λSz=>
 bd (ah .add Sx Sz) λSA=>
 bd (az .i64 SA) λSB=>
 bd (aO (aA [iz,iz,iz,iz,.av,.av] [(0,1,Sm),(1,1,Sr),(2,1,Sv),(3,1,SB)])) λSC=>
 ax (aE e (a6 [iz,iz,iz,iz,.av,.av])) λd I=>
 ax (aj 6 d SC I) λ_ i=>
 bd (ab 1 d) λSD=>
 bd (aa SD i.get) λSE=>
 bd (ah .eql SE (J 0)) λSF=>
 jn (br SF (bd (aB 1 (vq a 0) (some (vq a 4)) (some (vq a 2)) none) λSG=>
 ax (kf 119 [SG] i) λA K=>
 bd (ai A 0) λSH=>
 bd (ai A 1) λSI=>
 bd (ab 4 d) λSJ=>
 ax (aj 1 SJ SH K) λ_ L=>
 nm [(vq a 0),(vq a 1),d,SI] L)
 (bd (aB 1 (vq a 0) (some (vq a 4)) (some (vq a 2)) none) λSK=>
 bd (ab 1 d) λSL=>
 bd (aa SL i.get) λSM=>
 ax (kf 120 [SK,SM] i) λB M=>
 bd (ai B 0) λSN=>
 bd (ai B 1) λSO=>
 bd (ab 5 d) λSP=>
 ax (aj 1 SP SN M) λ_ O=>
 nm [(vq a 0),(vq a 1),d,SO] O))
 (λc k=>bd (ay 6 (vq c 2) k.get) λSQ=>
 ax (kf 121 [SQ] k) λC l=>
 bd (ai C 0) λSR=>
 bd (ai C 1) λo=>
 bd (ah .neq (vq c 3) (J 0)) λf=>
 bd (gF f (some o)) λp=>
 bd (gF f (ah .neq p (J 0))) λq=>
 bd (pT f q) λb=>
 bd (gF b (some SR)) λr=>
 bd (gF b (some (vq c 0))) λt=>
 ax (gS (gd b false) l (kf 122 [r,t] l)) λu j=>
 bd (gF b (gH .not u)) λv=>
 bd (pT b v) λw=>
 br w (bd (aO (aA [iz,iz,iz,iz,.av,.av] [])) λx=>
 ax (aj 6 (vq c 1) x j) λ_ m=>
 bd (rC (ay 6 (vq c 1) m.get) (rT (J 2) (some []))) λE=>bd (aD E) λG=>
 some (G,m))
 (bd (ay 6 (vq c 2) j.get) λy=>
 ax (aj 6 (vq c 1) y j) λ_ n=>
 bd (rC (ay 6 (vq c 1) n.get) (rT (J 0) (some []))) λF=>bd (aD F) λH=>
 some (H,n)))
 jN
 jT)
 jN
 jT)
theorem gP:fC 81 f81:=λd a0 s=>(ak rfl Tryz.func81 (by kernel_rfl)).trans (by generalize R d=c;kernel_rfl)
def f77:fh:=λkf N a0 s=>
 ax (aE s (a6 [iz,iz,iz,iz,.int .u32 0])) λe V=>
 ax (kf 81 [a0] V) λR W=>
 bd (ai R 0) λg=>
 bd (ai R 1) λc=>
 ax (aE W (a6 [iz,iz,iz,iz,.av,.av])) λd X=>
 ax (aj 6 d g X) λ_ a=>
 bd (ah .neq c (J 0)) λh=>
 br h (bd (aO (aA [iz,iz,iz,iz,.int .u32 0] [])) λi=>
 ax (aj 5 e i a) λ_ P=>
 bd (rC (ay 5 e P.get) (rT c (some []))) λS=>bd (aD S) λU=>
 some (U,P))
 (bd (aG a0) λj=>
 bd (ah .sub j (J 4)) λk=>
 bd (aB 1 a0 (some k) none none) λb=>
 bd (ab 0 d) λl=>
 bd (aa l a.get) λm=>
 bd (ab 1 d) λn=>
 bd (aa n a.get) λo=>
 bd (ab 2 d) λp=>
 bd (aa p a.get) λq=>
 bd (ab 3 d) λr=>
 bd (aa r a.get) λt=>
 bd (ar 1 b (J 0)) λu=>
 bd (aa u a.get) λv=>
 bd (az .u32 v) λw=>
 bd (ar 1 b (J 1)) λx=>
 bd (aa x a.get) λy=>
 bd (az .u32 y) λz=>
 bd (ah .shl z (J6 8)) λA=>
 bd (ah .or w A) λB=>
 bd (ar 1 b (J 2)) λC=>
 bd (aa C a.get) λD=>
 bd (az .u32 D) λE=>
 bd (ah .shl E (J6 16)) λF=>
 bd (ah .or B F) λG=>
 bd (ar 1 b (J 3)) λH=>
 bd (aa H a.get) λI=>
 bd (az .u32 I) λK=>
 bd (ah .shl K (J6 24)) λL=>
 bd (ah .or G L) λM=>
 bd (aO (aA [iz,iz,iz,iz,.int .u32 0] [(0,1,m),(1,1,o),(2,1,q),(3,1,t),(4,1,M)])) λO=>
 ax (aj 5 e O a) λ_ Q=>
 bd (rC (ay 5 e Q.get) (rT (J 0) (some []))) λT=>bd (aD T) λf=>
 some (f,Q))
theorem EN:fC 77 f77:=λd a0 s=>(ak rfl Tryz.func77 (by kernel_rfl)).trans (by generalize R d=c;kernel_rfl)
def f69:fh:=λkf N a0 s=>
 bd (ah .lss a0 (J 1)) λb=>
 br b (some ((Z (.str [])),s))
 (ax (kf 111 [a0] s) λc a=>
 bd (ah .add (Z (.str [115])) c) λd=>
 some (d,a))
theorem PG(kf:bc)(N:Nat)(a0:T)(s:St):sN Tryz.prog kf N Tryz.f69 [a0] s=f69 kf N a0 s:=by kernel_rfl
end
noncomputable section
def Kg:gI:=λkf N v s=>
 bd (ah .geq (vq v 0) (J6 128)) λg=>
 br g (jn (bd (az .u8 (vq v 0)) λh=>
 bd (ah .or h (J8 128)) λi=>
 ax (aE s (aN 1 (aA [.int .u8 0] [(0,1,i)]))) λa d=>
 ax (aF 1 1 (vq v 1) a d) λb e=>
 bd (ah .shr (vq v 0) (J6 7)) λc=>
 nm [c,b] e)
 (λv3 f=>nm [(vq v3 0),(vq v3 1)] f)
 jE
 jR)
 (jE 0 [(vq v 0),(vq v 1)] s)
def f71:fh:=λkf N a0 s=>
 jn (jn (loops (Kg kf N) N [a0,(Z .av)] s)
 (jM [.any,.any])
 jZ
 jR)
 (λb c=>bd (az .u8 (vq b 0)) λe=>
 ax (aE c (aN 1 (aA [.int .u8 0] [(0,1,e)]))) λf d=>
 ax (aF 1 1 (vq b 1) f d) λg a=>
 bd (bQ g a.get) λh=>
 some (h,a))
 jN
 jT
theorem NC:fC 71 f71:=λd a0 s=>(ak rfl Tryz.func71 (by kernel_rfl)).trans (by generalize R d=c;kernel_rfl)
def f115:fh:=λkf N a0 s=>
 bd (ah .geq a0 (J 0)) λe=>
 br e (bd (az .u64 a0) λf=>
 bd (ah .mul f (J6 2)) λg=>
 some (g,s))
 (bd (ah .add a0 (J 1)) λh=>
 bd (gH .neg h) λa=>
 bd (az .u64 a) λb=>
 bd (ah .mul b (J6 2)) λc=>
 bd (ah .add c (J6 1)) λd=>
 some (d,s))
theorem Jg:fC 115 f115:=λd a0 s=>(ak rfl Tryz.func115 (by kernel_rfl)).trans (by generalize R d=c;kernel_rfl)
def iI:gI:=λkf N v s=>
 bd (aG (vq v 0)) λG=>
 bd (ah .lss (vq v 1) G) λH=>
 br H (jn (bd (ar 2 (vq v 0) (vq v 1)) λd=>
 bd (ab 0 d) λe=>
 bd (aa e s.get) λf=>
 bd (ah .lss f (J 0)) λb=>
 bd (gF b (some (vq v 0))) λg=>
 bd (gF b (some (vq v 1))) λh=>
 bd (gF b (ar 2 g h)) λi=>
 bd (gF b (ab 0 i)) λj=>
 bd (gF b (aa j s.get)) λk=>
 bd (gF b (ah .gtr k (J 1099511627776))) λl=>
 bd (pT b l) λc=>
 bd (gF c (some (vq v 1))) λm=>
 bd (gF c (ah .gtr m (J 0))) λn=>
 bd (gF c (some n)) λa=>
 bd (gU a (some (vq v 0))) λo=>
 bd (gU a (some (vq v 1))) λp=>
 bd (gU a (ar 2 o p)) λq=>
 bd (gU a (ab 0 q)) λr=>
 bd (gU a (aa r s.get)) λt=>
 bd (gU a (some (vq v 0))) λu=>
 bd (gU a (some (vq v 1))) λw=>
 bd (gU a (ah .sub w (J 1))) λx=>
 bd (gU a (ar 2 u x)) λy=>
 bd (gU a (ab 0 y)) λz=>
 bd (gU a (aa z s.get)) λA=>
 bd (gU a (ah .leq t A)) λC=>
 bd (gF c (pF a C)) λD=>
 bd (pT c D) λE=>
 br E (jR (B false) s)
 (nm [(vq v 0),(vq v 1)] s))
 (λv1 F=>bd (ah .add (vq v1 1) (J 1)) λI=>
 nm [(vq v1 0),I] F)
 jE
 jR)
 (jE 0 [] s)
def f112:fh:=λkf N a0 s=>
 jn (jn (loops (iI kf N) N [a0,(J 0)] s)
 (jM [])
 jZ
 jR)
 (λb a=>some ((B true),a))
 jN
 jT
theorem A7:fC 112 f112:=λd a0 s=>(ak rfl Tryz.func112 (by kernel_rfl)).trans (by generalize R d=c;kernel_rfl)
def f75:fh:=λkf N a0 s=>
 ax (kf 117 [(I .u32 1),a0] s) λb a=>
 some (b,a)
theorem NH:fC 75 f75:=λd a0 s=>(ak rfl Tryz.func75 (by kernel_rfl)).trans (by generalize R d=c;kernel_rfl)
def tV:gI:=λkf N v s=>
 bd (aV (vq v 0)) λa=>
 bd (ah .lss (vq v 2) a) λb=>
 br b (jn (bd (ah .mul (vq v 1) (J6 257)) λd=>
 bd (bZ (vq v 0) (vq v 2)) λe=>
 bd (az .u64 e) λf=>
 bd (ah .add d f) λg=>
 bd (ah .add g (J6 1)) λh=>
 bd (ah .rem h (J6 4294967291)) λi=>
 nm [(vq v 0),i,(vq v 2)] s)
 (λv1 j=>bd (ah .add (vq v1 2) (J 1)) λc=>
 nm [(vq v1 0),(vq v1 1),c] j)
 jE
 jR)
 (jE 0 [(vq v 1)] s)
def f117:iA:=λkf N a0 c s=>
 bd (az .u64 a0) λd=>
 bd (ah .rem d (J6 4294967291)) λe=>
 jn (jn (loops (tV kf N) N [c,e,(J 0)] s)
 (jM [.any])
 jZ
 jR)
 (λf a=>bd (az .u32 (vq f 0)) λb=>
 some (b,a))
 jN
 jT
theorem Ji:iB 117 f117:=λd a0 a s=>(ak rfl Tryz.func117 (by kernel_rfl)).trans (by generalize R d=c;kernel_rfl)
def f74:fh:=λkf N a0 s=>
 bd (az .u8 a0) λg=>
 bd (ah .shr a0 (J6 8)) λh=>
 bd (az .u8 h) λi=>
 bd (ah .shr a0 (J6 16)) λj=>
 bd (az .u8 j) λa=>
 bd (ah .shr a0 (J6 24)) λb=>
 bd (az .u8 b) λc=>
 ax (aE s (aN 4 (aA [.int .u8 0,.int .u8 0,.int .u8 0,.int .u8 0] [(0,1,g),(1,1,i),(2,1,a),(3,1,c)]))) λd f=>
 bd (bQ d f.get) λe=>
 some (e,f)
theorem NG:fC 74 f74:=λd a0 s=>(ak rfl Tryz.func74 (by kernel_rfl)).trans (by generalize R d=c;kernel_rfl)
def kJ:gI:=λkf N v s=>
 bd (ah .lss (vq v 3) (J 10)) λa=>
 bd (gU a (some (vq v 1))) λf=>
 bd (gU a (some (vq v 3))) λg=>
 bd (gU a (ah .add f g)) λh=>
 bd (gU a (some (vq v 0))) λi=>
 bd (gU a (aV i)) λj=>
 bd (gU a (ah .lss h j)) λk=>
 bd (pF a k) λl=>
 br l (jn (bd (ah .add (vq v 1) (vq v 3)) λn=>
 bd (bZ (vq v 0) n) λo=>
 bd (az .u64 o) λb=>
 bd (ah .eql (vq v 3) (J 9)) λc=>
 bd (gU c (some b)) λp=>
 bd (gU c (ah .gtr p (J6 1))) λq=>
 bd (pF c q) λr=>
 br r (jE 0 [(vq v 1)] s)
 (bd (ah .and b (J6 127)) λt=>
 bd (ah .mul (J 7) (vq v 3)) λu=>
 bd (az .u64 u) λw=>
 bd (ah .shl t w) λx=>
 bd (ah .or (vq v 2) x) λe=>
 bd (ah .lss b (J6 128)) λy=>
 br y (bd (ah .eql b (J6 0)) λd=>
 bd (gU d (some (vq v 3))) λz=>
 bd (gU d (ah .gtr z (J 0))) λA=>
 bd (pF d A) λB=>
 br B (jE 0 [(vq v 1)] s)
 (bd (ah .add (vq v 1) (vq v 3)) λC=>
 bd (ah .add C (J 1)) λD=>
 bd (aD [e,D,(J 0)]) λE=>
 jR E s))
 (nm [(vq v 0),(vq v 1),e,(vq v 3)] s)))
 (λv3 F=>bd (ah .add (vq v3 3) (J 1)) λm=>
 nm [(vq v3 0),(vq v3 1),(vq v3 2),m] F)
 jE
 jR)
 (jE 0 [(vq v 1)] s)
def f100:iA:=λkf N a0 b s=>
 bd (ah .lss b (J 0)) λa=>
 bd (gF a (some b)) λe=>
 bd (gF a (some a0)) λf=>
 bd (gF a (aV f)) λg=>
 bd (gF a (ah .gtr e g)) λh=>
 bd (pT a h) λi=>
 br i (bd (aD [(J6 0),b,(J 1)]) λk=>
 some (k,s))
 (jn (jn (loops (kJ kf N) N [a0,b,(J6 0),(J 0)] s)
 (jM [.any])
 jZ
 jR)
 (λj d=>bd (aD [(J6 0),(vq j 0),(J 2)]) λc=>
 some (c,d))
 jN
 jT)
theorem I3:iB 100 f100:=λd a0 a s=>(ak rfl Tryz.func100 (by kernel_rfl)).trans (by generalize R d=c;kernel_rfl)
def f70:fh:=λkf N a0 s=>
 ax (aE s (b6 a0)) λc e=>
 bd (ab 0 c) λt5=>
 bd (aa t5 e.get) λt6=>
 bd (ah .lss t6 (J 1)) λt7=>
 bd (gF t7 (ab 0 c)) λt9=>
 bd (gF t7 (aa t9 e.get)) λSk=>
 bd (gF t7 (ah .gtr Sk (J 1073741824))) λSl=>
 bd (pT t7 Sl) λk=>
 bd (gF k (ab 1 c)) λSm=>
 bd (gF k (aa Sm e.get)) λSn=>
 bd (gF k (ah .lss Sn (J 0))) λSp=>
 bd (pT k Sp) λl=>
 bd (gF l (ab 1 c)) λSr=>
 bd (gF l (aa Sr e.get)) λSs=>
 bd (gF l (ah .gtr Ss (J 3))) λSu=>
 bd (pT l Su) λm=>
 bd (gF m (ab 2 c)) λSv=>
 bd (gF m (aa Sv e.get)) λSw=>
 bd (gF m (ah .lss Sw (J 0))) λSx=>
 bd (pT m Sx) λg=>
 bd (gF g (ab 2 c)) λSy=>
 bd (gF g (aa Sy e.get)) λSz=>
 bd (gF g (ab 3 c)) λSA=>
 bd (gF g (aa SA e.get)) λSB=>
 bd (gF g (ah .geq Sz SB)) λSC=>
 bd (pT g SC) λn=>
 bd (gF n (ab 3 c)) λSD=>
 bd (gF n (aa SD e.get)) λSE=>
 bd (gF n (ah .gtr SE (J 1099511627776))) λSF=>
 bd (pT n SF) λSG=>
 br SG (some ((B false),e))
 (bd (ab 1 c) λSH=>
 bd (aa SH e.get) λSI=>
 bd (ah .eql SI (J 0)) λSJ=>
 br SJ (bd (ab 4 c) λSK=>
 bd (aa SK e.get) λSL=>
 bd (aG SL) λr=>
 bd (ab 5 c) λSM=>
 bd (aa SM e.get) λSN=>
 bd (aG SN) λSO=>
 bd (ah .eql SO (J 0)) λt=>
 bd (gU t (some r)) λSP=>
 bd (gU t (ah .geq SP (J 1))) λSQ=>
 bd (pF t SQ) λu=>
 bd (gU u (some r)) λSR=>
 bd (gU u (ah .leq SR (J 64))) λSS=>
 bd (pF u SS) λo=>
 bd (gU o (ab 4 c)) λSU=>
 bd (gU o (aa SU e.get)) λSV=>
 ax (gS (gd o true) e (kf 112 [SV] e)) λSW q=>
 bd (pF o SW) λf=>
 bd (gU f (ab 4 c)) λSX=>
 bd (gU f (aa SX q.get)) λSY=>
 bd (gU f (ar 2 SY (J 0))) λSZ=>
 bd (gU f (ab 0 SZ)) λS0=>
 bd (gU f (aa S0 q.get)) λS1=>
 bd (gU f (ab 2 c)) λS2=>
 bd (gU f (aa S2 q.get)) λS3=>
 bd (gU f (ah .geq S1 S3)) λS4=>
 bd (pF f S4) λd=>
 bd (gU d (ab 4 c)) λS5=>
 bd (gU d (aa S5 q.get)) λS6=>
 bd (gU d (some r)) λS7=>
 bd (gU d (ah .sub S7 (J 1))) λS8=>
 bd (gU d (ar 2 S6 S8)) λS9=>
 bd (gU d (ab 0 S9)) λTa=>
 bd (gU d (aa Ta q.get)) λTb=>
 bd (gU d (ab 3 c)) λTc=>
 bd (gU d (aa Tc q.get)) λTd=>
 bd (gU d (ah .lss Tb Td)) λTe=>
 bd (pF d Te) λTf=>
 some (Tf,q))
 (bd (ab 5 c) λTg=>
 bd (aa Tg e.get) λTh=>
 bd (aG Th) λv=>
 bd (ab 4 c) λTi=>
 bd (aa Ti e.get) λTj=>
 bd (aG Tj) λTk=>
 bd (ah .eql Tk (J 0)) λw=>
 bd (gU w (some v)) λTl=>
 bd (gU w (ah .geq Tl (J 1))) λTm=>
 bd (pF w Tm) λx=>
 bd (gU x (some v)) λTn=>
 bd (gU x (ah .leq Tn (J 64))) λTo=>
 bd (pF x To) λh=>
 bd (gU h (ab 5 c)) λz=>
 bd (gU h (aa z e.get)) λA=>
 bd (gU h (ab 1 c)) λC=>
 bd (gU h (aa C e.get)) λD=>
 ax (gS (gd h true) e (kf 113 [A,D] e)) λE p=>
 bd (pF h E) λa=>
 bd (gU a (ab 5 c)) λi=>
 bd (gU a (aa i p.get)) λF=>
 bd (gU a (ar 7 F (J 0))) λG=>
 bd (gU a (ab 0 G)) λj=>
 bd (gU a (aa j p.get)) λH=>
 bd (gU a (ab 2 c)) λI=>
 bd (gU a (aa I p.get)) λK=>
 bd (gU a (ab 1 c)) λL=>
 bd (gU a (aa L p.get)) λM=>
 ax (gS (gd a true) p (kf 114 [K,M] p)) λO y=>
 bd (gU a (ah .geq H O)) λP=>
 bd (pF a P) λb=>
 bd (gU b (ab 5 c)) λQ=>
 bd (gU b (aa Q y.get)) λR=>
 bd (gU b (some v)) λS=>
 bd (gU b (ah .sub S (J 1))) λT=>
 bd (gU b (ar 7 R T)) λU=>
 bd (gU b (ab 0 U)) λV=>
 bd (gU b (aa V y.get)) λW=>
 bd (gU b (ab 3 c)) λX=>
 bd (gU b (aa X y.get)) λY=>
 bd (gU b (ah .lss W Y)) λZ=>
 bd (pF b Z) λSj=>
 ck ((wq (gd a true) (decide (aa i y.get=aa i p.get))&&true)&&((wq (gd a true) (decide (aa j y.get=aa j p.get))&&true)&&true)) (some (Sj,y))))
theorem NB:fC 70 f70:=λd a0 s=>(ak rfl Tryz.func70 (by kernel_rfl)).trans (by generalize R d=c;kernel_rfl)
def f20:fh:=λkf N a0 s=>
 ax (aE s (b6 a0)) λd s1=>
 bd (ay 6 d s1.get) λt6=>
 ax (kf 70 [t6] s1) λt7 e=>
 bd (gH .not t7) λt8=>
 br t8 (bd (aD [(Z (.str [])),(J 1)]) λr3=>
 some (r3,e))
 (bd (ab 0 d) λt9=>
 bd (aa t9 e.get) λv=>
 bd (az .u64 v) λw=>
 ax (kf 71 [w] e) λx g=>
 bd (ah .add (Z (.str [84,75])) x) λy=>
 bd (ab 1 d) λf=>
 bd (aa f g.get) λz=>
 bd (az .u64 z) λA=>
 ax (kf 71 [A] g) λB h=>
 bd (ah .add y B) λC=>
 bd (ab 2 d) λc=>
 bd (aa c h.get) λD=>
 bd (az .u64 D) λE=>
 ax (kf 71 [E] h) λF s6=>
 bd (ah .add C F) λG=>
 bd (ab 3 d) λa=>
 bd (aa a s6.get) λH=>
 bd (ab 2 d) λb=>
 bd (aa b s6.get) λI=>
 bd (ah .sub H I) λK=>
 bd (az .u64 K) λL=>
 ax (kf 71 [L] s6) λM i=>
 bd (ah .add G M) λk=>
 ck ((decide (aa f e.get=aa f g.get)&&true)&&((decide (aa c e.get=aa c h.get)&&(decide (aa c g.get=aa c h.get)&&true))&&((decide (aa a e.get=aa a s6.get)&&(decide (aa a g.get=aa a s6.get)&&(decide (aa a h.get=aa a s6.get)&&true)))&&((decide (aa b e.get=aa b s6.get)&&(decide (aa b g.get=aa b s6.get)&&(decide (aa b h.get=aa b s6.get)&&true)))&&true)))) (bd (ab 1 d) λO=>
 bd (aa O i.get) λP=>
 bd (ah .eql P (J 0)) λQ=>
 jn (br Q (bd (ab 4 d) λR=>
 bd (aa R i.get) λS=>
 ax (kf 72 [S] i) λl s8=>
 bd (ai l 0) λT=>
 bd (ai l 1) λSn=>
 nm [k,T] s8)
 (bd (ab 5 d) λU=>
 bd (aa U i.get) λV=>
 bd (ab 1 d) λW=>
 bd (aa W i.get) λX=>
 ax (kf 73 [V,X] i) λm s9=>
 bd (ai m 0) λY=>
 bd (ai m 1) λSp=>
 nm [k,Y] s9))
 (λp t=>bd (ah .add (vq p 0) (vq p 1)) λn=>
 ax (kf 75 [n] t) λSj u=>
 ax (kf 74 [Sj] u) λSk j=>
 bd (ah .add n Sk) λo=>
 bd (aV o) λSl=>
 bd (ah .gtr Sl (J 4000)) λSm=>
 br Sm (bd (aD [(Z (.str [])),(J 8)]) λq=>
 some (q,j))
 (bd (aD [o,(J 0)]) λr=>
 some (r,j)))
 jN
 jT))
theorem M4:fC 20 f20:=λd a0 s=>(ak rfl Tryz.func20 (by kernel_rfl)).trans (by generalize R d=c;kernel_rfl)
def rS:gI:=λkf N v s=>
 bd (aG (vq v 0)) λg=>
 bd (ah .lss (vq v 3) g) λh=>
 br h (jn (bd (ah .eql (vq v 3) (J 0)) λj=>
 br j (bd (ar 2 (vq v 0) (J 0)) λk=>
 bd (ab 0 k) λl=>
 bd (aa l s.get) λm=>
 bd (az .u64 m) λn=>
 ax (kf 71 [n] s) λo f=>
 bd (ah .add (vq v 1) o) λp=>
 bd (ar 2 (vq v 0) (J 0)) λq=>
 bd (ab 1 q) λb=>
 bd (aa b f.get) λr=>
 ax (kf 115 [r] f) λt Y=>
 ax (kf 71 [t] Y) λu s6=>
 bd (ah .add p u) λw=>
 ck ((decide (aa b s.get=aa b f.get)&&true)&&true) (nm [(vq v 0),w,(vq v 2),(vq v 3)] s6))
 (bd (ar 2 (vq v 0) (vq v 3)) λx=>
 bd (ab 0 x) λy=>
 bd (aa y s.get) λz=>
 bd (ah .sub (vq v 3) (J 1)) λA=>
 bd (ar 2 (vq v 0) A) λB=>
 bd (ab 0 B) λC=>
 bd (aa C s.get) λD=>
 bd (ah .sub z D) λc=>
 bd (ar 2 (vq v 0) (vq v 3)) λE=>
 bd (ab 1 E) λF=>
 bd (aa F s.get) λG=>
 bd (az .u64 G) λH=>
 bd (ah .sub (vq v 3) (J 1)) λI=>
 bd (ar 2 (vq v 0) I) λK=>
 bd (ab 1 K) λL=>
 bd (aa L s.get) λM=>
 bd (az .u64 M) λO=>
 bd (ah .sub H O) λP=>
 bd (az .i64 P) λQ=>
 bd (ah .sub c (vq v 2)) λR=>
 ax (kf 115 [R] s) λS Z=>
 ax (kf 71 [S] Z) λT s8=>
 bd (ah .add (vq v 1) T) λU=>
 ax (kf 115 [Q] s8) λV s9=>
 ax (kf 71 [V] s9) λW d=>
 bd (ah .add U W) λX=>
 nm [(vq v 0),X,c,(vq v 3)] d))
 (λa e=>bd (ah .add (vq a 3) (J 1)) λi=>
 nm [(vq a 0),(vq a 1),(vq a 2),i] e)
 jE
 jR)
 (jE 0 [(vq v 1)] s)
def f72:fh:=λkf N a0 s=>
 ax (kf 112 [a0] s) λd m=>
 bd (gH .not d) λa=>
 bd (gF a (some a0)) λe=>
 bd (gF a (aG e)) λf=>
 bd (gF a (ah .gtr f (J 64))) λg=>
 bd (pT a g) λh=>
 br h (bd (aD [(Z (.str [])),(J 1)]) λn=>
 some (n,m))
 (bd (aG a0) λi=>
 bd (az .u64 i) λj=>
 ax (kf 71 [j] m) λk o=>
 jn (jn (loops (rS kf N) N [a0,k,(J 0),(J 0)] o)
 (jM [.any])
 jZ
 jR)
 (λl c=>bd (aD [(vq l 0),(J 0)]) λb=>
 some (b,c))
 jN
 jT)
theorem ND:fC 72 f72:=λd a0 s=>(ak rfl Tryz.func72 (by kernel_rfl)).trans (by generalize R d=c;kernel_rfl)
end
noncomputable section
def f26:iA:=λkf N a0 b s=>
 ax (kf 79 [a0,b] s) λd c=>
 bd (aG a0) λe=>
 bd (ah .eql d e) λa=>
 some (a,c)
theorem M7:iB 26 f26:=λd a0 a s=>(ak rfl Tryz.func26 (by kernel_rfl)).trans (by generalize R d=c;kernel_rfl)
def rU:gI:=λkf N v s=>
 bd (aG (vq v 0)) λw=>
 bd (ah .lss (vq v 2) w) λc=>
 bd (gU c (some (vq v 2))) λd=>
 bd (gU c (some (vq v 1))) λe=>
 bd (gU c (aG e)) λf=>
 bd (gU c (ah .lss d f)) λg=>
 bd (pF c g) λb=>
 bd (gU b (some (vq v 0))) λh=>
 bd (gU b (some (vq v 2))) λj=>
 bd (gU b (ar 8 h j)) λk=>
 bd (gU b (ay 8 k s.get)) λl=>
 bd (gU b (some (vq v 1))) λm=>
 bd (gU b (some (vq v 2))) λn=>
 bd (gU b (ar 8 m n)) λo=>
 bd (gU b (ay 8 o s.get)) λp=>
 bd (gU b (lu (.a 8 [(0,.i),(1,.i),(2,.i),(3,.i),(4,.i),(5,.i),(6,.i),(7,.s)]) l p)) λq=>
 bd (pF b q) λr=>
 br r (jn (bd (ah .add (vq v 2) (J 1)) λt=>
 nm [(vq v 0),(vq v 1),t] s)
 (λv1 u=>nm [(vq v1 0),(vq v1 1),(vq v1 2)] u)
 jE
 jR)
 (jE 0 [(vq v 2)] s)
def f79:iA:=λkf N a0 b s=>
 jn (jn (loops (rU kf N) N [a0,b,(J 0)] s)
 (jM [.any])
 jZ
 jR)
 (λc a=>some ((vq c 0),a))
 jN
 jT
theorem NJ:iB 79 f79:=λd a0 a s=>(ak rfl Tryz.func79 (by kernel_rfl)).trans (by generalize R d=c;kernel_rfl)
def f31:iA:=λkf N a0 f s=>
 bd (aG a0) λh=>
 bd (aG f) λi=>
 bd (ah .eql h i) λa=>
 bd (gU a (some a0)) λb=>
 bd (gU a (some f)) λc=>
 ax (gS (gd a true) s (kf 26 [b,c] s)) λd g=>
 bd (pF a d) λe=>
 some (e,g)
theorem Na:iB 31 f31:=λd a0 a s=>(ak rfl Tryz.func31 (by kernel_rfl)).trans (by generalize R d=c;kernel_rfl)
end
noncomputable section
def f140:fh:=λkf N a0 s=>
 bd (ba a0) λE=>
 bd (ab 2 E) λF=>
 bd (aa F s.get) λa=>
 bd (gF a (some a0)) λG=>
 bd (gF a (ba G)) λH=>
 bd (gF a (ab 1 H)) λc=>
 bd (gF a (aa c s.get)) λd=>
 bd (gF a (some a0)) λe=>
 bd (gF a (ba e)) λf=>
 bd (gF a (ab 0 f)) λg=>
 bd (gF a (aa g s.get)) λh=>
 bd (gF a (aV h)) λi=>
 bd (gF a (ah .geq d i)) λj=>
 bd (pT a j) λk=>
 br k (bd (ba a0) λl=>
 bd (ab 2 l) λm=>
 ax (aj 1 m (B true) s) λ_ D=>
 some ((J8 0),D))
 (bd (ba a0) λn=>
 bd (ab 1 n) λo=>
 bd (aa o s.get) λp=>
 bd (ah .add p (J 1)) λq=>
 bd (ba a0) λr=>
 bd (ab 1 r) λt=>
 ax (aj 1 t q s) λ_ b=>
 bd (ba a0) λu=>
 bd (ab 0 u) λv=>
 bd (aa v b.get) λw=>
 bd (ba a0) λx=>
 bd (ab 1 x) λy=>
 bd (aa y b.get) λz=>
 bd (ah .sub z (J 1)) λA=>
 bd (bZ w A) λC=>
 some (C,b))
theorem Jr:fC 140 f140:=λd a0 s=>(ak rfl Tryz.func140 (by kernel_rfl)).trans (by generalize R d=c;kernel_rfl)
def f142:fh:=λkf N a0 s=>
 bd (ba a0) λt=>
 bd (ab 2 t) λu=>
 bd (aa u s.get) λv=>
 br v (some ((J6 0),s))
 (bd (ba a0) λb=>
 bd (ab 0 b) λc=>
 bd (aa c s.get) λd=>
 bd (ba a0) λe=>
 bd (ab 1 e) λf=>
 bd (aa f s.get) λg=>
 ax (kf 100 [d,g] s) λa p=>
 bd (ai a 0) λh=>
 bd (ai a 1) λi=>
 bd (ai a 2) λj=>
 bd (ah .neq j (J 0)) λk=>
 bd (ba a0) λl=>
 bd (ab 1 l) λm=>
 ax (aj 1 m i p) λ_ q=>
 bd (ba a0) λn=>
 bd (ab 2 n) λo=>
 ax (aj 1 o k q) λ_ r=>
 some (h,r))
theorem Jt:fC 142 f142:=λd a0 s=>(ak rfl Tryz.func142 (by kernel_rfl)).trans (by generalize R d=c;kernel_rfl)
def f143:iA:=λkf N a0 c s=>
 bd (ba a0) λQ=>
 bd (ab 2 Q) λR=>
 bd (aa R s.get) λa=>
 bd (gF a (some c)) λd=>
 bd (gF a (some a0)) λe=>
 bd (gF a (ba e)) λf=>
 bd (gF a (ab 0 f)) λg=>
 bd (gF a (aa g s.get)) λh=>
 bd (gF a (aV h)) λi=>
 bd (gF a (some a0)) λj=>
 bd (gF a (ba j)) λk=>
 bd (gF a (ab 1 k)) λl=>
 bd (gF a (aa l s.get)) λm=>
 bd (gF a (ah .sub i m)) λn=>
 bd (gF a (az .u64 n)) λo=>
 bd (gF a (ah .gtr d o)) λp=>
 bd (pT a p) λq=>
 br q (bd (ba a0) λr=>
 bd (ab 2 r) λt=>
 ax (aj 1 t (B true) s) λ_ P=>
 some ((Z (.str [])),P))
 (bd (ba a0) λu=>
 bd (ab 1 u) λv=>
 bd (aa v s.get) λw=>
 bd (az .i64 c) λx=>
 bd (ah .add w x) λy=>
 bd (ba a0) λz=>
 bd (ab 1 z) λA=>
 ax (aj 1 A y s) λ_ b=>
 bd (ba a0) λC=>
 bd (ab 0 C) λD=>
 bd (aa D b.get) λE=>
 bd (ba a0) λF=>
 bd (ab 1 F) λG=>
 bd (aa G b.get) λH=>
 bd (az .i64 c) λI=>
 bd (ah .sub H I) λJ=>
 bd (ba a0) λK=>
 bd (ab 1 K) λL=>
 bd (aa L b.get) λM=>
 bd (bn E (some J) (some M) none) λO=>
 some (O,b))
theorem Ju:iB 143 f143:=λd a0 a s=>(ak rfl Tryz.func143 (by kernel_rfl)).trans (by generalize R d=c;kernel_rfl)
def kK:gI:=λkf N v s=>
 bd (aV (vq v 0)) λh=>
 bd (ah .leq (vq v 6) h) λi=>
 br i (jn (bd (aV (vq v 0)) λk=>
 bd (ah .lss (vq v 6) k) λb=>
 bd (gU b (some (vq v 0))) λl=>
 bd (gU b (some (vq v 6))) λm=>
 bd (gU b (bZ l m)) λn=>
 bd (gU b (ah .neq n (J8 10))) λo=>
 bd (pF b o) λp=>
 br p (nm [(vq v 0),(vq v 1),(vq v 2),(vq v 3),(vq v 4),(vq v 5),(vq v 6)] s)
 (bd (ah .add (vq v 5) (J 1)) λd=>
 bd (bn (vq v 0) (some (vq v 4)) (some (vq v 6)) none) λq=>
 ax (kf 144 [q] s) λe s6=>
 bd (aG e) λr=>
 bd (ah .gtr r (J 0)) λc=>
 bd (gU c (some (vq v 3))) λt=>
 bd (gU c (some e)) λu=>
 ax (gS (gd c true) s6 (kf 145 [(vq v 2),t,u] s6)) λw B=>
 bd (gU c (gH .not w)) λx=>
 bd (pF c x) λy=>
 br y (bd (aO (aA [iz,iz,iz,iz,iz,iz] [])) λz=>
 ax (aj 6 (vq v 1) z B) λ_ C=>
 bd (rC (ay 6 (vq v 1) C.get) (rT (J 4) (rT d (some [])))) λD=>bd (aD D) λf=>
 jR f C)
 (bd (ah .add (vq v 6) (J 1)) λA=>
 nm [(vq v 0),(vq v 1),(vq v 2),(vq v 3),A,d,(vq v 6)] B)))
 (λa g=>bd (ah .add (vq a 6) (J 1)) λj=>
 nm [(vq a 0),(vq a 1),(vq a 2),(vq a 3),(vq a 4),(vq a 5),j] g)
 jE
 jR)
 (jE 0 [(vq v 1),(vq v 2)] s)
def f107:fh:=λkf N a0 s=>
 ax (aE s (a6 [iz,iz,iz,iz,iz,iz])) λx r=>
 ax (kf 102 [] r) λj t=>
 ax (aE t (a6 [iz,iz,iz,iz,iz,iz])) λq u=>
 ax (aj 6 q j u) λ_ v=>
 ax (aE v (BI 1 1 [.bool false] (J 6) (J 6))) λk w=>
 jn (jn (loops (kK kf N) N [a0,x,q,k,(J 0),(J 0),(J 0)] w)
 (jM [.any,.any])
 jZ
 jR)
 (λa c=>bd (ay 6 (vq a 1) c.get) λl=>
 ax (kf 146 [l] c) λm b=>
 bd (gH .not m) λn=>
 br n (bd (aO (aA [iz,iz,iz,iz,iz,iz] [])) λo=>
 ax (aj 6 (vq a 0) o b) λ_ d=>
 bd (rC (ay 6 (vq a 0) d.get) (rT (J 5) (rT (J 0) (some [])))) λf=>bd (aD f) λh=>
 some (h,d))
 (bd (ay 6 (vq a 1) b.get) λp=>
 ax (aj 6 (vq a 0) p b) λ_ e=>
 bd (rC (ay 6 (vq a 0) e.get) (rT (J 0) (rT (J 0) (some [])))) λg=>bd (aD g) λi=>
 some (i,e)))
 jN
 jT
theorem Jb:fC 107 f107:=λd a0 s=>(ak rfl Tryz.func107 (by kernel_rfl)).trans (by generalize R d=c;kernel_rfl)
def oH:gI:=λkf N v s=>
 bd (aV (vq v 0)) λD=>
 bd (ah .leq (vq v 3) D) λg=>
 br g (jn (bd (aV (vq v 0)) λi=>
 bd (ah .eql (vq v 3) i) λb=>
 bd (gF b (some (vq v 0))) λj=>
 bd (gF b (some (vq v 3))) λk=>
 bd (gF b (bZ j k)) λl=>
 bd (gF b (ah .eql l (J8 35))) λm=>
 bd (pT b m) λa=>
 bd (gF a (some (vq v 0))) λn=>
 bd (gF a (some (vq v 3))) λo=>
 bd (gF a (bZ n o)) λp=>
 bd (gF a (ah .eql p (J8 32))) λq=>
 bd (pT a q) λr=>
 jn (br r (bd (ah .gtr (vq v 3) (vq v 2)) λt=>
 jn (br t (bd (bn (vq v 0) (some (vq v 2)) (some (vq v 3)) none) λu=>
 ax (aE s (aN 1 (aA [.str []] [(0,1,u)]))) λw A=>
 ax (aF 1 16 (vq v 1) w A) λx B=>
 nm [(vq v 0),x,(vq v 3),a] B)
 (nm [(vq v 0),(vq v 1),(vq v 3),a] s))
 (λv3 C=>bd (ah .add (vq v3 2) (J 1)) λy=>
 nm [(vq v3 0),(vq v3 1),y,(vq v3 2),(vq v3 3)] C)
 jE
 jR)
 (nm [(vq v 0),(vq v 1),(vq v 2),(vq v 3),a] s))
 (λd e=>br (vq d 4) (jE 0 [(vq d 1)] e)
 (nm [(vq d 0),(vq d 1),(vq d 2),(vq d 3)] e))
 (λz d e=>if z=1 then some (.normal d,e)else some (.exit z d,e))
 jR)
 (λc f=>bd (ah .add (vq c 3) (J 1)) λh=>
 nm [(vq c 0),(vq c 1),(vq c 2),h] f)
 jE
 jR)
 (jE 0 [(vq v 1)] s)
def f144:fh:=λkf N a0 s=>
 jn (jn (loops (oH kf N) N [a0,(Z .av),(J 0),(J 0)] s)
 (jM [.any])
 jZ
 jR)
 (λb a=>some ((vq b 0),a))
 jN
 jT
theorem Jv:fC 144 f144:=λd a0 s=>(ak rfl Tryz.func144 (by kernel_rfl)).trans (by generalize R d=c;kernel_rfl)
def mv:gI:=λkf N v s=>
 bd (ah .lss (vq v 4) (J 4)) λf=>
 br f (jn (ax (kf 191 [] s) λh s6=>
 bd (ar 1 h (vq v 4)) λi=>
 bd (aa i s6.get) λj=>
 bd (ar 1 (vq v 2) (J 1)) λb=>
 bd (aa b s6.get) λk=>
 bd (ah .eql j k) λc=>
 bd (gU c (some (vq v 3))) λl=>
 bd (gU c (ah .geq l (J 0))) λm=>
 bd (pF c m) λa=>
 bd (gU a (some (vq v 1))) λn=>
 bd (gU a (some (vq v 4))) λo=>
 bd (gU a (ar 1 n o)) λp=>
 bd (gU a (aa p s6.get)) λq=>
 bd (gU a (gH .not q)) λr=>
 bd (pF a r) λt=>
 ck ((decide (aa b s.get=aa b s6.get)&&true)&&true) (br t (bd (ba (vq v 0)) λu=>
 bd (ab 0 u) λw=>
 bd (bz 4 1 w (vq v 4)) λx=>
 ax (aj 1 x (vq v 3) s6) λ_ z=>
 bd (ar 1 (vq v 1) (vq v 4)) λy=>
 ax (aj 1 y (B true) z) λ_ A=>
 jR (B true) A)
 (nm [(vq v 0),(vq v 1),(vq v 2),(vq v 3),(vq v 4)] s6)))
 (λd e=>bd (ah .add (vq d 4) (J 1)) λg=>
 nm [(vq d 0),(vq d 1),(vq d 2),(vq d 3),g] e)
 jE
 jR)
 (jE 0 [] s)
def f145:F4:=λkf N a0 g c s=>
 bd (aG c) λw=>
 bd (ah .eql w (J 3)) λd=>
 bd (gU d (some c)) λx=>
 bd (gU d (ar 1 x (J 0))) λy=>
 bd (gU d (aa y s.get)) λz=>
 bd (gU d (ah .eql z (Z (.str [107,101,101,112])))) λA=>
 bd (pF d A) λC=>
 br C (bd (ar 1 c (J 2)) λD=>
 bd (aa D s.get) λE=>
 ax (kf 190 [E] s) λF n=>
 bd (ar 1 c (J 2)) λG=>
 bd (aa G n.get) λH=>
 bd (ah .eql H (Z (.str [101,118,101,114]))) λI=>
 jn (br I (nm [a0,g,c,(J 0)] n)
 (nm [a0,g,c,F] n))
 (λm s3=>jn (jn (loops (mv kf N) N [(vq m 0),(vq m 1),(vq m 2),(vq m 3),(J 0)] s3)
 (jM [])
 jZ
 jR)
 (λSA o=>some ((B false),o))
 jN
 jT)
 jN
 jT)
 (bd (aG c) λK=>
 bd (ah .neq K (J 2)) λb=>
 bd (gF b (some c)) λL=>
 bd (gF b (ar 1 L (J 1))) λM=>
 bd (gF b (aa M s.get)) λO=>
 ax (gS (gd b false) s (kf 190 [O] s)) λP a=>
 bd (gF b (ah .lss P (J 0))) λQ=>
 bd (pT b Q) λR=>
 br R (some ((B false),a))
 (bd (ar 1 c (J 0)) λS=>
 bd (aa S a.get) λT=>
 bd (ah .eql T (Z (.str [115,101,97,108]))) λe=>
 bd (gU e (some g)) λU=>
 bd (gU e (ar 1 U (J 4))) λV=>
 bd (gU e (aa V a.get)) λW=>
 bd (gU e (gH .not W)) λX=>
 bd (pF e X) λY=>
 br Y (bd (ar 1 c (J 1)) λSj=>
 bd (aa Sj a.get) λSk=>
 ax (kf 190 [Sk] a) λSl p=>
 bd (ba a0) λSm=>
 bd (ab 4 Sm) λSn=>
 ax (aj 1 Sn Sl p) λ_ q=>
 bd (ar 1 g (J 4)) λSp=>
 ax (aj 1 Sp (B true) q) λ_ r=>
 some ((B true),r))
 (bd (ar 1 c (J 0)) λSr=>
 bd (aa Sr a.get) λSs=>
 bd (ah .eql Ss (Z (.str [115,112,97,110]))) λf=>
 bd (gU f (some g)) λSu=>
 bd (gU f (ar 1 Su (J 5))) λSv=>
 bd (gU f (aa Sv a.get)) λSw=>
 bd (gU f (gH .not Sw)) λSx=>
 bd (pF f Sx) λSy=>
 br Sy (bd (ar 1 c (J 1)) λSz=>
 bd (aa Sz a.get) λh=>
 ax (kf 190 [h] a) λi t=>
 bd (ba a0) λj=>
 bd (ab 5 j) λk=>
 ax (aj 1 k i t) λ_ u=>
 bd (ar 1 g (J 5)) λl=>
 ax (aj 1 l (B true) u) λ_ v=>
 some ((B true),v))
 (some ((B false),a)))))
theorem Jw:My 145 f145:=λd a0 a b s=>(ak rfl Tryz.func145 (by kernel_rfl)).trans (by generalize R d=c;kernel_rfl)
def qy:gI:=λkf N v s=>
 bd (aV (vq v 0)) λb=>
 bd (ah .lss (vq v 2) b) λc=>
 br c (jn (bd (bZ (vq v 0) (vq v 2)) λe=>
 bd (ah .lss e (J8 48)) λa=>
 bd (gF a (some (vq v 0))) λf=>
 bd (gF a (some (vq v 2))) λg=>
 bd (gF a (bZ f g)) λh=>
 bd (gF a (ah .gtr h (J8 57))) λi=>
 bd (pT a i) λj=>
 br j (jR (J (-1)) s)
 (bd (ah .mul (vq v 1) (J 10)) λk=>
 bd (bZ (vq v 0) (vq v 2)) λl=>
 bd (ah .sub l (J8 48)) λm=>
 bd (az .i64 m) λn=>
 bd (ah .add k n) λo=>
 nm [(vq v 0),o,(vq v 2)] s))
 (λv1 p=>bd (ah .add (vq v1 2) (J 1)) λd=>
 nm [(vq v1 0),(vq v1 1),d] p)
 jE
 jR)
 (jE 0 [(vq v 1)] s)
def f190:fh:=λkf N a0 s=>
 bd (aV a0) λf=>
 bd (ah .lss f (J 1)) λa=>
 bd (gF a (some a0)) λg=>
 bd (gF a (aV g)) λc=>
 bd (gF a (ah .gtr c (J 13))) λd=>
 bd (pT a d) λe=>
 br e (some ((J (-1)),s))
 (jn (jn (loops (qy kf N) N [a0,(J 0),(J 0)] s)
 (jM [.any])
 jZ
 jR)
 (λh b=>some ((vq h 0),b))
 jN
 jT)
theorem JT:fC 190 f190:=λd a0 s=>(ak rfl Tryz.func190 (by kernel_rfl)).trans (by generalize R d=c;kernel_rfl)
def f191:Qi:=λkf N s=>
 ax (aE s (aN 4 (aA [.str [],.str [],.str [],.str []] [(0,1,(Z (.str [114,97,119]))),(1,1,(Z (.str [53,109]))),(2,1,(Z (.str [49,104]))),(3,1,(Z (.str [49,100])))]))) λb a=>
 some (b,a)
theorem JU:Qy 191 f191:=λd s=>(ak rfl Tryz.func191 (by kernel_rfl)).trans (by generalize R d=c;kernel_rfl)
def jv:gI:=λkf N v s=>
 bd (ah .lss (vq v 1) (J 4)) λQ=>
 br Q (jn (bd (ab 0 (vq v 0)) λh=>
 bd (bz 4 1 h (vq v 1)) λi=>
 bd (aa i s.get) λd=>
 bd (ah .lss d (J 0)) λg=>
 bd (gF g (some d)) λj=>
 bd (gF g (ah .gtr j (J 1099511627776))) λk=>
 bd (pT g k) λe=>
 bd (gF e (some (vq v 1))) λl=>
 bd (gF e (ah .gtr l (J 0))) λm=>
 bd (gF e (some m)) λb=>
 bd (gU b (some d)) λn=>
 bd (gU b (ah .neq n (J 0))) λo=>
 bd (gU b (some o)) λa=>
 bd (gU a (some d)) λp=>
 bd (gU a (some (vq v 1))) λq=>
 bd (gU a (ah .sub q (J 1))) λr=>
 bd (gU a (ab 0 (vq v 0))) λt=>
 bd (gU a (bz 4 1 t r)) λu=>
 bd (gU a (aa u s.get)) λw=>
 bd (gU a (ah .lss p w)) λx=>
 bd (gU b (pF a x)) λy=>
 bd (gU b (some y)) λf=>
 bd (gF f (some d)) λz=>
 bd (gF f (ah .neq z (J 0))) λA=>
 bd (gF f (some A)) λc=>
 bd (gU c (some (vq v 1))) λC=>
 bd (gU c (ah .sub C (J 1))) λD=>
 bd (gU c (ab 0 (vq v 0))) λE=>
 bd (gU c (bz 4 1 E D)) λF=>
 bd (gU c (aa F s.get)) λG=>
 bd (gU c (ah .eql G (J 0))) λH=>
 bd (gF f (pF c H)) λI=>
 bd (gU b (pT f I)) λK=>
 bd (gF e (pF b K)) λL=>
 bd (pT e L) λM=>
 br M (jR (B false) s)
 (nm [(vq v 0),(vq v 1)] s))
 (λO P=>bd (ah .add (vq O 1) (J 1)) λR=>
 nm [(vq O 0),R] P)
 jE
 jR)
 (jE 0 [(vq v 0)] s)
def f146:fh:=λkf N a0 s=>
 ax (aE s (b6 a0)) λy x=>
 jn (jn (loops (jv kf N) N [y,(J 0)] x)
 (jM [.any])
 jZ
 jR)
 (λb a=>bd (ab 0 (vq b 0)) λg=>
 bd (bz 4 1 g (J 3)) λh=>
 bd (aa h a.get) λi=>
 bd (ah .eql i (J 0)) λc=>
 bd (gU c (ab 4 (vq b 0))) λj=>
 bd (gU c (aa j a.get)) λk=>
 bd (gU c (ah .geq k (J 1))) λl=>
 bd (pF c l) λd=>
 bd (gU d (ab 4 (vq b 0))) λm=>
 bd (gU d (aa m a.get)) λn=>
 bd (gU d (ah .leq n (J 64))) λo=>
 bd (pF d o) λe=>
 bd (gU e (ab 5 (vq b 0))) λp=>
 bd (gU e (aa p a.get)) λq=>
 bd (gU e (ah .geq q (J 1))) λr=>
 bd (pF e r) λf=>
 bd (gU f (ab 5 (vq b 0))) λt=>
 bd (gU f (aa t a.get)) λu=>
 bd (gU f (ah .leq u (J 200))) λv=>
 bd (pF f v) λw=>
 some (w,a))
 jN
 jT
theorem Jx:fC 146 f146:=λd a0 s=>(ak rfl Tryz.func146 (by kernel_rfl)).trans (by generalize R d=c;kernel_rfl)
def f102:Qi:=λkf N s=>
 ax (aE s (a6 [iz,iz,iz,iz,iz,iz])) λb e=>
 bd (aO (aA [iz,iz,iz,iz] [(0,1,(J 60)),(1,1,(J 600)),(2,1,(J 6000)),(3,1,(J 0))])) λf=>
 bd (aO (aA [iz,iz,iz,iz,iz,iz] [(0,4,f),(4,1,(J 8)),(5,1,(J 30))])) λg=>
 ax (aj 6 b g e) λ_ a=>
 bd (rC (ay 6 b a.get) (some [])) λc=>bd (aD c) λd=>
 some (d,a)
theorem I5:Qy 102 f102:=λd s=>(ak rfl Tryz.func102 (by kernel_rfl)).trans (by generalize R d=c;kernel_rfl)
end
noncomputable section
def f156:fh:=λkf N a0 s=>
 bd (ah .lss a0 (J 0)) λb=>
 bd (gF b (some a0)) λc=>
 bd (gF b (ah .geq c (J 4))) λd=>
 bd (pT b d) λe=>
 br e (some ((J 0),s))
 (bd (aO (aA [iz,iz,iz,iz] [(0,1,(J 1)),(1,1,(J 5)),(2,1,(J 60)),(3,1,(J 1440))])) λf=>
 bd (pz none 4 1 f a0) λa=>
 some (a,s))
theorem JD:fC 156 f156:=λd a0 s=>(ak rfl Tryz.func156 (by kernel_rfl)).trans (by generalize R d=c;kernel_rfl)
def f200:iA:=λkf N a0 l s=>
 ax (kf 156 [l] s) λk j=>
 bd (ah .eql k (J 0)) λi=>
 bd (gF i (some a0)) λb=>
 bd (gF i (ah .lss b (J 0))) λc=>
 bd (pT i c) λa=>
 bd (gF a (some a0)) λd=>
 bd (gF a (ah .gtr d (J 1099511627776))) λe=>
 bd (pT a e) λf=>
 br f (some ((J (-1)),j))
 (bd (ah .rem a0 k) λg=>
 bd (ah .sub a0 g) λh=>
 some (h,j))
theorem J2:iB 200 f200:=λd a0 a s=>(ak rfl Tryz.func200 (by kernel_rfl)).trans (by generalize R d=c;kernel_rfl)
def f233:fh:=λkf N a0 s=>
 bd (ah .gtr a0 (J 0)) λa=>
 bd (gU a (some a0)) λb=>
 bd (gU a (ah .lss b (J 4))) λc=>
 bd (pF a c) λd=>
 some (d,s)
theorem Kc:fC 233 f233:=λd a0 s=>(ak rfl Tryz.func233 (by kernel_rfl)).trans (by generalize R d=c;kernel_rfl)
def mz:gI:=λkf N v s=>
 bd (ah .lss (vq v 4) (vq v 3)) λh=>
 br h (jn (bd (ar 7 (vq v 2) (vq v 4)) λi=>
 bd (ay 7 i s.get) λj=>
 ax (aE s (a6 [iz,iz,iz,iz,iz,iz,iz])) λd E=>
 ax (aj 7 d j E) λ_ D=>
 bd (ay 7 d D.get) λk=>
 ax (kf 234 [k] D) λl e=>
 bd (gH .not l) λa=>
 bd (gF a (ab 0 d)) λc=>
 bd (gF a (aa c e.get)) λm=>
 bd (gF a (ab 0 d)) λn=>
 bd (gF a (aa n e.get)) λo=>
 bd (gF a (some (vq v 0))) λp=>
 ax (gS (gd a false) e (kf 200 [o,p] e)) λq f=>
 bd (gF a (ah .neq m q)) λr=>
 bd (pT a r) λb=>
 bd (gF b (ab 0 d)) λt=>
 bd (gF b (aa t f.get)) λu=>
 bd (gF b (some (vq v 1))) λw=>
 bd (gF b (ah .leq u w)) λx=>
 bd (pT b x) λy=>
 ck ((wq (gd a false) (decide (aa c f.get=aa c e.get))&&true)&&true) (br y (jR (B false) f)
 (bd (ab 0 d) λz=>
 bd (aa z f.get) λA=>
 nm [(vq v 0),A,(vq v 2),(vq v 3),(vq v 4)] f)))
 (λg F=>bd (ah .add (vq g 4) (J 1)) λC=>
 nm [(vq g 0),(vq g 1),(vq g 2),(vq g 3),C] F)
 jE
 jR)
 (jE 0 [] s)
def f197:iA:=λkf N a0 d s=>
 ax (kf 233 [d] s) λf e=>
 bd (gH .not f) λb=>
 br b (some ((B false),e))
 (bd (aG a0) λc=>
 jn (jn (loops (mz kf N) N [d,(J (-1)),a0,c,(J 0)] e)
 (jM [])
 jZ
 jR)
 (λg a=>some ((B true),a))
 jN
 jT)
theorem JZ:iB 197 f197:=λd a0 a s=>(ak rfl Tryz.func197 (by kernel_rfl)).trans (by generalize R d=c;kernel_rfl)
def f258:iA:=λkf N a0 l s=>
 ax (aE s (b6 a0)) λb o=>
 ax (aE o (a6 [iz,iz,iz,iz,iz,iz,iz])) λk a=>
 bd (ab 1 b) λp=>
 bd (aa p a.get) λq=>
 bd (ab 1 b) λr=>
 bd (aa r a.get) λt=>
 bd (ab 1 b) λc=>
 bd (aa c a.get) λd=>
 bd (ab 1 b) λe=>
 bd (aa e a.get) λf=>
 bd (ab 1 b) λg=>
 bd (aa g a.get) λh=>
 bd (aO (aA [iz,iz,iz,iz,iz,iz,iz] [(0,1,l),(1,1,(J 1)),(2,1,q),(3,1,t),(4,1,d),(5,1,f),(6,1,h)])) λi=>
 ax (aj 7 k i a) λ_ j=>
 bd (rC (ay 7 k j.get) (some [])) λm=>bd (aD m) λn=>
 some (n,j)
theorem Kf:iB 258 f258:=λd a0 a s=>(ak rfl Tryz.func258 (by kernel_rfl)).trans (by generalize R d=c;kernel_rfl)
def f234:fh:=λkf N a0 s=>
 ax (aE s (b6 a0)) λd b=>
 bd (ab 1 d) λX=>
 bd (aa X b.get) λY=>
 bd (ah .lss Y (J 1)) λg=>
 bd (gF g (ab 1 d)) λZ=>
 bd (gF g (aa Z b.get)) λt8=>
 bd (gF g (ah .gtr t8 (J 1099511627776))) λt9=>
 bd (pT g t9) λe=>
 bd (gF e (ab 0 d)) λh=>
 bd (gF e (aa h b.get)) λj=>
 bd (gF e (ah .lss j (J 0))) λk=>
 bd (pT e k) λf=>
 bd (gF f (ab 0 d)) λl=>
 bd (gF f (aa l b.get)) λm=>
 bd (gF f (ah .gtr m (J 1099511627776))) λn=>
 bd (pT f n) λo=>
 br o (some ((B false),b))
 (bd (ab 1 d) λp=>
 bd (aa p b.get) λq=>
 bd (ah .eql q (J 1)) λr=>
 br r (bd (ay 7 d b.get) λt=>
 bd (ab 2 d) λu=>
 bd (aa u b.get) λv=>
 bd (aO (aA [iz,iz] [(1,1,v)])) λw=>
 bd (ab 0 d) λx=>
 bd (aa x b.get) λy=>
 ax (kf 258 [w,y] b) λz W=>
 bd (lu (.a 7 [(0,.i),(1,.i),(2,.i),(3,.i),(4,.i),(5,.i),(6,.i)]) t z) λA=>
 ck ((decide (ay 7 d W.get=ay 7 d b.get)&&true)&&true) (some (A,W)))
 (bd (ab 3 d) λC=>
 bd (aa C b.get) λD=>
 bd (ab 5 d) λE=>
 bd (aa E b.get) λF=>
 bd (ab 6 d) λG=>
 bd (aa G b.get) λH=>
 bd (ab 4 d) λI=>
 bd (aa I b.get) λK=>
 bd (kz l3 F [H,K]) λL=>
 bd (ah .leq D L) λc=>
 bd (gU c (ab 4 d)) λM=>
 bd (gU c (aa M b.get)) λO=>
 bd (gU c (ab 5 d)) λP=>
 bd (gU c (aa P b.get)) λQ=>
 bd (gU c (ab 6 d)) λR=>
 bd (gU c (aa R b.get)) λS=>
 bd (gU c (kz xc Q [S])) λT=>
 bd (gU c (ah .geq O T)) λU=>
 bd (pF c U) λV=>
 some (V,b)))
theorem vh:fC 234 f234:=λd a0 s=>(ak rfl Tryz.func234 (by kernel_rfl)).trans (by generalize R d=c;kernel_rfl)
def oJ:gI:=λkf N v s=>
 bd (ah .lss (vq v 6) (vq v 5)) λo=>
 br o (jn (bd (ar 7 (vq v 4) (vq v 6)) λp=>
 bd (ay 7 p s.get) λq=>
 ax (aE s (a6 [iz,iz,iz,iz,iz,iz,iz])) λa s6=>
 ax (aj 7 a q s6) λ_ n=>
 bd (ab 0 a) λf=>
 bd (aa f n.get) λr=>
 ax (kf 156 [(vq v 0)] n) λt s8=>
 bd (ah .quo r t) λg=>
 ck ((decide (aa f s8.get=aa f n.get)&&true)&&true) (bd (ah .sub g (vq v 3)) λu=>
 bd (ah .sub u (J 1)) λw=>
 bd (az .u64 w) λx=>
 ax (dyn Tryz.prog kf (vq v 2) [x] s8) λSv s9=>
 bd (ab 1 a) λy=>
 bd (aa y s9.get) λz=>
 bd (ah .sub z (J 1)) λA=>
 bd (az .u64 A) λB=>
 ax (dyn Tryz.prog kf (vq v 2) [B] s9) λSw h=>
 bd (ab 3 a) λC=>
 bd (aa C h.get) λD=>
 ax (kf 196 [D] h) λE j=>
 ax (dyn Tryz.prog kf (vq v 2) [E] j) λSx c=>
 bd (ab 1 a) λF=>
 bd (aa F c.get) λG=>
 bd (ah .eql G (J 1)) λH=>
 br H (nm [(vq v 0),(vq v 1),(vq v 2),g,(vq v 4),(vq v 5),(vq v 6)] c)
 (bd (ab 4 a) λI=>
 bd (aa I c.get) λK=>
 bd (az .u64 K) λL=>
 bd (ab 3 a) λM=>
 bd (aa M c.get) λO=>
 bd (az .u64 O) λP=>
 bd (ah .sub L P) λQ=>
 ax (dyn Tryz.prog kf (vq v 2) [Q] c) λSy i=>
 bd (ab 2 a) λR=>
 bd (aa R i.get) λS=>
 ax (kf 196 [S] i) λT k=>
 ax (dyn Tryz.prog kf (vq v 2) [T] k) λSz d=>
 bd (ab 5 a) λU=>
 bd (aa U d.get) λV=>
 bd (az .u64 V) λW=>
 bd (ab 3 a) λX=>
 bd (aa X d.get) λY=>
 bd (az .u64 Y) λZ=>
 bd (ah .sub W Z) λSj=>
 ax (dyn Tryz.prog kf (vq v 2) [Sj] d) λSA e=>
 bd (ab 6 a) λSk=>
 bd (aa Sk e.get) λSl=>
 bd (az .u64 Sl) λSm=>
 bd (ab 3 a) λSn=>
 bd (aa Sn e.get) λSp=>
 bd (az .u64 Sp) λSr=>
 bd (ah .sub Sm Sr) λSs=>
 ax (dyn Tryz.prog kf (vq v 2) [Ss] e) λSB l=>
 nm [(vq v 0),(vq v 1),(vq v 2),g,(vq v 4),(vq v 5),(vq v 6)] l)))
 (λb m=>bd (ah .add (vq b 6) (J 1)) λSu=>
 nm [(vq b 0),(vq b 1),(vq b 2),(vq b 3),(vq b 4),(vq b 5),Su] m)
 jE
 jR)
 (jE 0 [(vq v 1)] s)
def f157:iA:=λkf N a0 q s=>
 ax (kf 197 [a0,q] s) λd r=>
 bd (gH .not d) λa=>
 bd (gF a (some a0)) λe=>
 bd (gF a (aG e)) λf=>
 bd (gF a (ah .gtr f (J 64))) λg=>
 bd (pT a g) λh=>
 br h (bd (aD [(Z .av),(J 1)]) λt=>
 some (t,r))
 (bd (aG a0) λi=>
 bd (az .u64 i) λj=>
 ax (kf 159 [j] r) λk u=>
 ax (aE u (a6 [.av])) λn v=>
 ax (aj 1 n k v) λ_ w=>
 bd (tJ 198 [n] []) λl=>
 bd (aG a0) λm=>
 jn (jn (loops (oJ kf N) N [q,n,l,(J (-1)),a0,m,(J 0)] w)
 (jM [.any])
 jZ
 jR)
 (λp b=>bd (aa (vq p 0) b.get) λo=>
 bd (aD [o,(J 0)]) λc=>
 some (c,b))
 jN
 jT)
theorem Be:iB 157 f157:=λd a0 a s=>(ak rfl Tryz.func157 (by kernel_rfl)).trans (by generalize R d=c;kernel_rfl)
def f198:iA:=λkf N a0 a s=>
 bd (aa a s.get) λf=>
 ax (kf 159 [a0] s) λg b=>
 ax (aF 1 1 f g b) λh d=>
 ax (aj 1 a h d) λ_ e=>
 ck ((decide (aa a b.get=aa a s.get)&&true)&&true) (bd (aD []) λc=>
 some (c,e))
theorem J0:iB 198 f198:=λd a0 a s=>(ak rfl Tryz.func198 (by kernel_rfl)).trans (by generalize R d=c;kernel_rfl)
def lC:gI:=λkf N v s=>
 bd (ah .lss (vq v 6) (vq v 5)) λC=>
 br C (jn (bd (ba (vq v 2)) λD=>
 bd (ab 2 D) λE=>
 bd (aa E s.get) λF=>
 br F (jE 0 [(vq v 0),(vq v 1),(vq v 2),(vq v 3)] s)
 (bd (ah .add (vq v 4) (J 1)) λG=>
 ax (kf 153 [(vq v 2)] s) λH s4=>
 bd (az .i64 H) λI=>
 bd (ah .add G I) λi=>
 ax (kf 156 [(vq v 1)] s4) λK s5=>
 bd (ah .mul i K) λL=>
 ax (kf 153 [(vq v 2)] s5) λM s6=>
 bd (az .i64 M) λO=>
 bd (ah .add O (J 1)) λP=>
 ax (kf 153 [(vq v 2)] s6) λQ s7=>
 ax (kf 154 [Q] s7) λR s8=>
 bd (aO (aA [iz,iz,iz,iz,iz,iz,iz] [(0,1,L),(1,1,P),(3,1,R)])) λS=>
 ax (aE s8 (a6 [iz,iz,iz,iz,iz,iz,iz])) λb s9=>
 ax (aj 7 b S s9) λ_ d=>
 bd (ab 3 b) λT=>
 bd (aa T d.get) λU=>
 bd (ab 3 b) λV=>
 bd (aa V d.get) λW=>
 bd (ab 3 b) λX=>
 bd (aa X d.get) λY=>
 bd (ab 3 b) λZ=>
 bd (aa Z d.get) λSj=>
 bd (ab 2 b) λSk=>
 ax (aj 1 Sk U d) λ_ q=>
 bd (ab 4 b) λSl=>
 ax (aj 1 Sl W q) λ_ r=>
 bd (ab 5 b) λSm=>
 ax (aj 1 Sm Y r) λ_ t=>
 bd (ab 6 b) λSn=>
 ax (aj 1 Sn Sj t) λ_ e=>
 bd (ab 1 b) λSp=>
 bd (aa Sp e.get) λSr=>
 bd (ah .neq Sr (J 1)) λSs=>
 jn (br Ss (bd (ab 3 b) λj=>
 bd (aa j e.get) λSu=>
 bd (az .u64 Su) λSv=>
 ax (kf 153 [(vq v 2)] e) λSw n=>
 bd (ah .add Sv Sw) λSx=>
 bd (az .i64 Sx) λSy=>
 bd (ab 4 b) λSz=>
 ax (aj 1 Sz Sy n) λ_ u=>
 ck ((decide (aa j n.get=aa j e.get)&&true)&&true) (ax (kf 153 [(vq v 2)] u) λSA w=>
 ax (kf 154 [SA] w) λSB x=>
 bd (ab 2 b) λSC=>
 ax (aj 1 SC SB x) λ_ g=>
 bd (ab 3 b) λk=>
 bd (aa k g.get) λSD=>
 bd (az .u64 SD) λSE=>
 ax (kf 153 [(vq v 2)] g) λSF o=>
 bd (ah .add SE SF) λSG=>
 bd (az .i64 SG) λSH=>
 bd (ab 5 b) λSI=>
 ax (aj 1 SI SH o) λ_ h=>
 ck ((decide (aa k o.get=aa k g.get)&&true)&&true) (bd (ab 3 b) λl=>
 bd (aa l h.get) λSJ=>
 bd (az .u64 SJ) λSK=>
 ax (kf 153 [(vq v 2)] h) λSL p=>
 bd (ah .add SK SL) λSM=>
 bd (az .i64 SM) λSN=>
 bd (ab 6 b) λSO=>
 ax (aj 1 SO SN p) λ_ y=>
 ck ((decide (aa l p.get=aa l h.get)&&true)&&true) (nm [(vq v 0),(vq v 1),(vq v 2),(vq v 3),i,b,(vq v 5),(vq v 6)] y))))
 (nm [(vq v 0),(vq v 1),(vq v 2),(vq v 3),i,b,(vq v 5),(vq v 6)] e))
 (λa f=>bd (ay 7 (vq a 5) f.get) λSP=>
 ax (aE f (aN 1 (aA [iz,iz,iz,iz,iz,iz,iz] [(0,7,SP)]))) λSQ z=>
 ax (aF 7 56 (vq a 3) SQ z) λSR A=>
 nm [(vq a 0),(vq a 1),(vq a 2),SR,(vq a 4),(vq a 6),(vq a 7)] A)
 (λm a f=>if m=1 then some (.normal a,f)else some (.exit m a,f))
 jR))
 (λc B=>bd (ah .add (vq c 6) (J 1)) λSS=>
 nm [(vq c 0),(vq c 1),(vq c 2),(vq c 3),(vq c 4),(vq c 5),SS] B)
 jE
 jR)
 (jE 0 [(vq v 0),(vq v 1),(vq v 2),(vq v 3)] s)
def f120:iA:=λkf N a0 t s=>
 bd (ah .lss t (J 1)) λe=>
 bd (gF e (some t)) λx=>
 bd (gF e (ah .geq x (J 4))) λy=>
 bd (pT e y) λz=>
 br z (bd (aD [(Z .av),(J 1)]) λD=>
 some (D,s))
 (bd (aO (aA [.av,iz,.bool false] [(0,1,a0)])) λA=>
 ax (aE s (b6 A)) λq E=>
 ax (kf 152 [q,(J 64)] E) λB F=>
 jn (jn (loops (lC kf N) N [a0,t,q,(Z .av),(J (-1)),B,(J 0)] F)
 (jM [.any,.any,.any,.any])
 jZ
 jR)
 (λc w=>ax (kf 157 [(vq c 3),(vq c 1)] w) λr d=>
 bd (ai r 0) λC=>
 bd (ai r 1) λg=>
 bd (ba (vq c 2)) λh=>
 bd (ab 2 h) λi=>
 bd (aa i d.get) λb=>
 bd (gF b (some g)) λj=>
 bd (gF b (ah .neq j (J 0))) λk=>
 bd (pT b k) λa=>
 bd (gF a (some C)) λl=>
 bd (gF a (some (vq c 0))) λm=>
 ax (gS (gd a false) d (kf 122 [l,m] d)) λn f=>
 bd (gF a (gH .not n)) λo=>
 bd (pT a o) λp=>
 br p (bd (aD [(Z .av),(J 2)]) λu=>
 some (u,f))
 (bd (aD [(vq c 3),(J 0)]) λv=>
 some (v,f)))
 jN
 jT)
theorem A8:iB 120 f120:=λd a0 a s=>(ak rfl Tryz.func120 (by kernel_rfl)).trans (by generalize R d=c;kernel_rfl)
end
end Go.Proofs.YtbohejffelipoaaGreatDoor
