/-
  Several texts in one: what functions that the law reaches compute. No conditions but those named in each line.
-/
import Derived.Test.YtbohejffelipoaaGreatDoorAbsE
import Derived.Test.YtbohejffelipoaaGreatDoorAbsD
import Derived.Test.YtbohejffelipoaaGreatDoorRows
namespace Go.Proofs.YtbohejffelipoaaGreatDoor
open Go Go.Abs Go.Abs.F
set_option linter.unusedVariables false
noncomputable section
def ic:List (S×V)->Option (List (List UInt8))
 | []=>some []
 | (.str n,_)::r=>match ic r with
   | some l=>match Nat.ble n.length 1000 && !l.contains n with
     | true=>some (n::l)
     | false=>none
   | none=>none
 | _::_=>none
def p9:List UInt8->List UInt8->Bool
 | [],_=>true
 | _::_,[]=>false
 | a::r,b::t=>match Nat.blt a.toNat b.toNat with
   | true=>true
   | false=>match Nat.beq a.toNat b.toNat with
     | true=>p9 r t
     | false=>false
def Ei (n:List UInt8):List (List UInt8)->List (List UInt8)
 | []=>[n]
 | m::r=>match p9 n m with
   | true=>n::m::r
   | false=>m::Ei n r
def cA:List (List UInt8)->List (List UInt8)
 | []=>[]
 | n::r=>Ei n (cA r)
def eV:ak:=fun f ts σ=>match Nat.beq f 29 with
 | false=>none
 | true=>match ts with
   | [.v (.s (.ptr i o))]=>match σ.get i with
     | some (.cells _ vs)=>match vs[o+1]? with
       | some (.map m)=>match σ.get m with
         | some (.map es)=>match Nat.ble es.length 1000,ic es with
           | true,some []=>some (Z .az,σ)
           | true,some (k::l)=>some (Z (.sl σ.size 0 (l.length+1) (.grown 1)),σ.push (.cells false ((cA (k::l)).map S.str)))
           | _,_=>none
         | _=>none
       | _=>none
     | _=>none
   | _=>none
abbrev NV:List Nat:=[247,248]
abbrev zm:ak:=Ac (HQ NV 246) (sV 181)
abbrev CS:ak:=Ac zm (fN (eO Tryz.prog 64 mX 8) [167])
abbrev Tj:ak:=Ac (sm 136 5 [.int .i64 0,.int .i64 0,.int .i64 0,.int .i64 0,.int .u32 0]) (nP 135 5)
abbrev oa:ak:=fN (eO Tryz.prog 64 mX 8) [167]
abbrev jq:List Nat:=[90,69,52]
abbrev Ti:ak:=Ac (fN (eO Tryz.prog 64 oa 16) jq) Tj
abbrev IA:ak:=Ac eV (Ac Ti CS)
abbrev dw:ak:=Ac (mJ 7 true) IA
abbrev R (d:Nat):ak:=eO Tryz.prog 8192 dw d
end
noncomputable section
theorem mf {f:Nat} {ts:List T} {σ:St} (h:(!Nat.beq f 7 && !Nat.beq f 29 && !Nat.beq f 90 && !Nat.beq f 69 && !Nat.beq f 52 && !Nat.beq f 136 && !Nat.beq f 135)=true):dw f ts σ=CS f ts σ:=by
 simp only [Bool.and_eq_true,Bool.not_eq_true'] at h
 obtain ⟨⟨⟨⟨⟨⟨h1,h2⟩,h3⟩,Z0⟩,Pp⟩,h4⟩,h5⟩:=h
 have e1:mJ 7 true f ts σ=none:=by simp [mJ,h1]
 have e2:eV f ts σ=none:=by simp only [eV,h2]
 have e3:fN (eO Tryz.prog 64 oa 16) jq f ts σ=none:=by
  have:jq.contains f=false:=by
   have hn:f≠90:=fun e=>by subst e;cases h3
   have Mg:f≠69:=fun e=>by subst e;cases Z0
   have Uo:f≠52:=fun e=>by subst e;cases Pp
   simp [jq,hn,Mg,Uo]
  simp only [fN,this,Bool.false_and]
 have e4:sm 136 5 [.int .i64 0,.int .i64 0,.int .i64 0,.int .i64 0,.int .u32 0] f ts σ=none:=by simp only [sm,h4]
 have e5:nP 135 5 f ts σ=none:=by simp only [nP,h5]
 exact (bD e1).trans ((bD e2).trans (bD ((bD e3).trans ((bD e4).trans e5))))
theorem CT {f:Nat} {l:Bs} {c:UInt8} {σ:St} (h:(NV.contains f && !Nat.beq f 7)=true):dw f [Z (.str l),Z (.str [c])] σ=some (I .i64 (nc c l 0),σ):=by
 simp only [Bool.and_eq_true,Bool.not_eq_true'] at h
 have hf:f=247\/f=248:=by simpa [NV] using h.1
 rw [mf (by rcases hf with rfl | rfl<;>decide)]
 exact ed (ed (P4 h.1))
theorem IB {l:Bs} {c:UInt8} {σ:St}:dw 246 [Z (.str l),Z (.str [c])] σ=some (I .i64 (eG c l:Nat),σ):=by
 rw [mf (by decide)]
 exact ed (ed (Mv (by decide)))
theorem En {x:S} {l:List Bs} {sep:Bs} {σ:St} (h:RT σ x l) (hb:cO l+l.length*sep.length<=1000000) (hl:l.length<=1000000):dw 181 [Z x,Z (.str sep)] σ=some (Z (.str (gP sep l)),σ):=by
 rw [mf (by decide)]
 have e3:HQ NV 246 181 [Z x,Z (.str sep)] σ=none:=by
  have h1:NV.contains 181=false:=by decide
  have h2:Nat.beq 181 246=false:=by decide
  simp only [HQ,h1,h2]
 exact ed ((bD e3).trans (HS h hb hl))
theorem ID (σ:St):dw 167 [Z (.str [48,49,50,51,52,53,54,55,56,57])] σ=some (.eD [.agg ((List.range 256).map fun c=>S.bool (Nat.ble 48 c&&Nat.ble c 57)),.s (.bool true)],σ):=by
 rw [mf (by decide)]
 have h0:zm 167 [Z (.str [48,49,50,51,52,53,54,55,56,57])] σ=none:=by
  have h1:NV.contains 167=false:=by decide
  have h2:Nat.beq 167 246=false:=by decide
  have h3:Nat.beq 167 181=false:=by decide
  simp only [zm,Ac,HQ,h1,h2,sV,h3]
 exact (bD h0).trans (iw (by decide) (by kernel_rfl) (by kernel_rfl))
theorem BZ (d:Nat) (s:St):R (d+1) 7 [] s=some (B true,s):=dK rfl
theorem tw {σ:St} {ts:List T}:dw 135 ts σ=nP 135 5 135 ts σ:=by
 have e1:mJ 7 true 135 ts σ=none:=by
  have:Nat.beq 135 7=false:=by decide
  simp only [mJ,this,Bool.false_and]
 have e2:eV 135 ts σ=none:=by
  have:Nat.beq 135 29=false:=by decide
  simp only [eV,this]
 have e3:fN (eO Tryz.prog 64 oa 16) jq 135 ts σ=none:=by
  have:jq.contains 135=false:=by decide
  simp only [fN,this,Bool.false_and]
 have e4:sm 136 5 [.int .i64 0,.int .i64 0,.int .i64 0,.int .i64 0,.int .u32 0] 135 ts σ=none:=by
  have:Nat.beq 135 136=false:=by decide
  simp only [sm,this]
 have e5:CS 135 ts σ=none:=by
  have h1:NV.contains 135=false:=by decide
  have h2:Nat.beq 135 246=false:=by decide
  have h3:Nat.beq 135 181=false:=by decide
  have h4:[167].contains 135=false:=by decide
  have h5:zm 135 ts σ=none:=by
   simp only [zm,Ac,HQ,h1,h2,sV,h3]
  exact (bD h5).trans (by simp only [fN,h4,Bool.false_and])
 refine (bD e1).trans ((bD e2).trans ?_)
 cases h:nP 135 5 135 ts σ with
 | some r=>exact ed ((bD e3).trans ((bD e4).trans h))
 | none=>exact (bD ((bD e3).trans ((bD e4).trans h))).trans e5
theorem IC {σ:St} {ts:List T} {r:T×St} (h:sm 136 5 [.int .i64 0,.int .i64 0,.int .i64 0,.int .i64 0,.int .u32 0] 136 ts σ=some r):dw 136 ts σ=some r:=by
 have e1:mJ 7 true 136 ts σ=none:=by
  have:Nat.beq 136 7=false:=by decide
  simp only [mJ,this,Bool.false_and]
 have e2:eV 136 ts σ=none:=by
  have:Nat.beq 136 29=false:=by decide
  simp only [eV,this]
 have e3:fN (eO Tryz.prog 64 oa 16) jq 136 ts σ=none:=by
  have:jq.contains 136=false:=by decide
  simp only [fN,this,Bool.false_and]
 exact (bD e1).trans ((bD e2).trans (ed ((bD e3).trans (ed h))))
theorem nZ {f:Nat} {ts:List T} {v:T} (d:Nat) (s:St) (hf:(!Nat.beq f 7 && !Nat.beq f 29)=true) (hs:fN (eO Tryz.prog 64 oa 16) jq f ts s=some (v,s)):R (d+1) f ts s=some (v,s):=by
 simp only [Bool.and_eq_true,Bool.not_eq_true'] at hf
 refine dK ((bD ?_).trans ((bD ?_).trans (ed (ed hs))))
 · simp only [mJ,hf.1,Bool.false_and]
 · simp only [eV,hf.2]
theorem zc {n:Bs} {b:Bool} (d:Nat) (s:St) (hs:fN (eO Tryz.prog 64 oa 16) jq 90 [Z (.str n)] s=some (B b,s)):R (d+1) 90 [Z (.str n)] s=some (B b,s):=nZ d s (by decide) hs
end
noncomputable section
def f179 (aa:ak) (N:Nat) (a0:T) (a1:T) (s:St):Option (T×St) :=
 ay (aa 218 [a0,a1,(I .i64 0),(I .i64 (-1))] s) fun t7 s1 =>
 some (t7,s1)
theorem KV (aa:ak) (N:Nat) (a0:T) (a1:T) (s:St):aS Tryz.prog aa N Tryz.f179 [a0,a1] s=f179 aa N a0 a1 s:=by kernel_rfl
theorem GG (d:Nat) (a0:T) (a1:T) (s:St):R (d+1) 179 [a0,a1] s=f179 (R d) 8192 a0 a1 s:=(au rfl Tryz.func179 (by kernel_rfl)).trans (KV ..)
def nG (aa:ak) (N:Nat) (v:List T) (s:St):Option (JO×St) :=
 bd (af .lss (v.getD 5 .any) (v.getD 3 .any)) fun t36 =>
 br t36 (jn (ay (aa 247 [(v.getD 0 .any),(v.getD 1 .any)] s) fun t39 s8 =>
 bd (af .lss t39 (I .i64 0)) fun t41 =>
 br t41 (some (.exit 0 [(v.getD 0 .any),(v.getD 4 .any),(v.getD 5 .any)],s8))
 (bd (af .add t39 (v.getD 2 .any)) fun t47 =>
 bd (bB (v.getD 0 .any) none (some t47) none) fun t48 =>
 bd (av 1 (v.getD 4 .any) (v.getD 5 .any)) fun t49 =>
 ay (aw 1 t49 t48 s8) fun _ s9 =>
 bd (cj (v.getD 1 .any)) fun t53 =>
 bd (af .add t39 t53) fun t54 =>
 bd (bB (v.getD 0 .any) (some t54) none none) fun t55 =>
 bd (af .add (v.getD 5 .any) (I .i64 1)) fun t57 =>
 some (.normal [t55,(v.getD 1 .any),(v.getD 2 .any),(v.getD 3 .any),(v.getD 4 .any),t57],s9)))
 (fun v10 bK=>some (.normal [(v10.getD 0 .any),(v10.getD 1 .any),(v10.getD 2 .any),(v10.getD 3 .any),(v10.getD 4 .any),(v10.getD 5 .any)],bK))
 (fun i12 v10 bK=>some (.exit i12 v10,bK))
 (fun qK bK=>some (.ret qK,bK)))
 (some (.exit 0 [(v.getD 0 .any),(v.getD 4 .any),(v.getD 5 .any)],s))
def f218 (aa:ak) (N:Nat) (a0:T) (a1:T) (a2:T) (a3:T) (s:St):Option (T×St) :=
 bd (af .eql a3 (I .i64 0)) fun t13 =>
 br t13 (some ((Z .az),s))
 (bd (af .eql a1 (Z (.str []))) fun t15 =>
 br t15 (ay (aa 245 [a0,a3] s) fun t18 s1 =>
 some (t18,s1))
 (bd (af .lss a3 (I .i64 0)) fun t20 =>
 jn (br t20 (ay (aa 246 [a0,a1] s) fun t23 s2 =>
 bd (af .add t23 (I .i64 1)) fun t24 =>
 some (.normal [a0,a1,a2,t24],s2))
 (some (.normal [a0,a1,a2,a3],s)))
 (fun v3 s4=>bd (cj (v3.getD 0 .any)) fun t27 =>
 bd (af .add t27 (I .i64 1)) fun t28 =>
 bd (ki ni (v3.getD 3 .any) [t28]) fun t29 =>
 ay (aK s4 (Ie 1 16 [.str []] t29 t29)) fun t31 s7 =>
 bd (af .sub t29 (I .i64 1)) fun t33 =>
 jn (jn (loops (nG aa N) N [(v3.getD 0 .any),(v3.getD 1 .any),(v3.getD 2 .any),t33,t31,(I .i64 0)] s7)
 (fun jh gH=>some (.normal [.any,.any,.any],gH))
 (fun i16 jh gH=>if i16=0 then some (.normal jh,gH) else some (.exit i16 jh,gH))
 (fun Ep gH=>some (.ret Ep,gH)))
 (fun mL lF=>bd (av 1 (mL.getD 1 .any) (mL.getD 2 .any)) fun t61 =>
 ay (aw 1 t61 (mL.getD 0 .any) lF) fun _ iO =>
 bd (af .add (mL.getD 2 .any) (I .i64 1)) fun t64 =>
 bd (ax 1 (mL.getD 1 .any) none (some t64) none) fun t65 =>
 some (t65,iO))
 (fun i20 mL lF=>none)
 (fun IJ lF=>some (IJ,lF)))
 (fun i5 v3 s4=>none)
 (fun r6 s4=>some (r6,s4))))
theorem Ld (aa:ak) (N:Nat) (a0:T) (a1:T) (a2:T) (a3:T) (s:St):aS Tryz.prog aa N Tryz.f218 [a0,a1,a2,a3] s=f218 aa N a0 a1 a2 a3 s:=by kernel_rfl
theorem GS (d:Nat) (a0:T) (a1:T) (a2:T) (a3:T) (s:St):R (d+1) 218 [a0,a1,a2,a3] s=f218 (R d) 8192 a0 a1 a2 a3 s:=(au rfl Tryz.func218 (by kernel_rfl)).trans (Ld ..)
def f180 (aa:ak) (N:Nat) (a0:T) (a1:T) (s:St):Option (T×St) :=
 ay (aa 219 [a0,a1] s) fun t9 s1 =>
 bd (ah t9 0) fun t10 =>
 bd (ah t9 1) fun t11 =>
 bd (ah t9 2) fun t12 =>
 bd (aQ [t10,t11,t12]) fun r2 =>
 some (r2,s1)
theorem KW (aa:ak) (N:Nat) (a0:T) (a1:T) (s:St):aS Tryz.prog aa N Tryz.f180 [a0,a1] s=f180 aa N a0 a1 s:=by kernel_rfl
theorem GH (d:Nat) (a0:T) (a1:T) (s:St):R (d+1) 180 [a0,a1] s=f180 (R d) 8192 a0 a1 s:=(au rfl Tryz.func180 (by kernel_rfl)).trans (KW ..)
def f219 (aa:ak) (N:Nat) (a0:T) (a1:T) (s:St):Option (T×St) :=
 ay (aa 248 [a0,a1] s) fun t10 s1 =>
 bd (af .geq t10 (I .i64 0)) fun t12 =>
 br t12 (bd (bB a0 none (some t10) none) fun t15 =>
 bd (cj a1) fun t19 =>
 bd (af .add t10 t19) fun t20 =>
 bd (bB a0 (some t20) none none) fun t21 =>
 bd (aQ [t15,t21,(B true)]) fun r2 =>
 some (r2,s1))
 (bd (aQ [a0,(Z (.str [])),(B false)]) fun r3 =>
 some (r3,s1))
theorem Le (aa:ak) (N:Nat) (a0:T) (a1:T) (s:St):aS Tryz.prog aa N Tryz.f219 [a0,a1] s=f219 aa N a0 a1 s:=by kernel_rfl
theorem GU (d:Nat) (a0:T) (a1:T) (s:St):R (d+1) 219 [a0,a1] s=f219 (R d) 8192 a0 a1 s:=(au rfl Tryz.func219 (by kernel_rfl)).trans (Le ..)
def nH (aa:ak) (N:Nat) (v:List T) (s:St):Option (JO×St) :=
 bd (af .lss (v.getD 3 .any) (v.getD 2 .any)) fun t9 =>
 br t9 (jn (bd (av 1 (v.getD 0 .any) (v.getD 3 .any)) fun t14 =>
 bd (ab t14 s.get) fun t15 =>
 bd (af .eql (v.getD 1 .any) t15) fun t16 =>
 br t16 (some (.ret (v.getD 3 .any),s))
 (some (.normal [(v.getD 0 .any),(v.getD 1 .any),(v.getD 2 .any),(v.getD 3 .any)],s)))
 (fun v1 s2=>bd (af .add (v1.getD 3 .any) (I .i64 1)) fun t18 =>
 some (.normal [(v1.getD 0 .any),(v1.getD 1 .any),(v1.getD 2 .any),t18],s2))
 (fun i3 v1 s2=>some (.exit i3 v1,s2))
 (fun r4 s2=>some (.ret r4,s2)))
 (some (.exit 0 [],s))
def f224 (aa:ak) (N:Nat) (a0:T) (a1:T) (s:St):Option (T×St) :=
 bd (aA a0) fun t7 =>
 jn (jn (loops (nH aa N) N [a0,a1,t7,(I .i64 0)] s)
 (fun v5 s6=>some (.normal [],s6))
 (fun i7 v5 s6=>if i7=0 then some (.normal v5,s6) else some (.exit i7 v5,s6))
 (fun r8 s6=>some (.ret r8,s6)))
 (fun v9 bV=>some ((I .i64 (-1)),bV))
 (fun i11 v9 bV=>none)
 (fun Eo bV=>some (Eo,bV))
theorem Lh (aa:ak) (N:Nat) (a0:T) (a1:T) (s:St):aS Tryz.prog aa N Tryz.f224 [a0,a1] s=f224 aa N a0 a1 s:=by kernel_rfl
theorem GW (d:Nat) (a0:T) (a1:T) (s:St):R (d+1) 224 [a0,a1] s=f224 (R d) 8192 a0 a1 s:=(au rfl Tryz.func224 (by kernel_rfl)).trans (Lh ..)
def f183 (aa:ak) (N:Nat) (a0:T) (a1:T) (s:St):Option (T×St) :=
 ay (aa 224 [a0,a1] s) fun t7 s1 =>
 bd (af .geq t7 (I .i64 0)) fun t8 =>
 some (t8,s1)
theorem KY (aa:ak) (N:Nat) (a0:T) (a1:T) (s:St):aS Tryz.prog aa N Tryz.f183 [a0,a1] s=f183 aa N a0 a1 s:=by kernel_rfl
theorem GJ (d:Nat) (a0:T) (a1:T) (s:St):R (d+1) 183 [a0,a1] s=f183 (R d) 8192 a0 a1 s:=(au rfl Tryz.func183 (by kernel_rfl)).trans (KY ..)
def f129 (aa:ak) (N:Nat) (a0:T) (a1:T) (s:St):Option (T×St) :=
 bd (af .eql a0 (Z (.str []))) fun t8 =>
 bd (gT (gd t8 false) (some a1)) fun t10 =>
 bd (gT (gd t8 false) (af .eql t10 (Z (.str [])))) fun t11 =>
 bd (aC t8 (B true) t11) fun t12 =>
 br t12 (some (a0,s))
 (bd (cj a1) fun t15 =>
 bd (af .eql t15 (I .i64 1)) fun t16 =>
 bd (gT (gd t16 true) (some a1)) fun t18 =>
 bd (gT (gd t16 true) (dM t18 (I .i64 0))) fun t19 =>
 bd (gT (gd t16 true) (af .lss t19 (I .u8 128))) fun t20 =>
 bd (aC t16 t20 (B false)) fun t21 =>
 br t21 (bd (dM a1 (I .i64 0)) fun t24 =>
 ay (aa 166 [a0,t24] s) fun t25 s1 =>
 bd (dM a1 (I .i64 0)) fun t27 =>
 ay (aa 165 [t25,t27] s1) fun t28 s2 =>
 some (t28,s2))
 (ay (aa 167 [a1] s) fun t31 s3 =>
 bd (ah t31 0) fun t32 =>
 bd (ah t31 1) fun t33 =>
 ay (aK s3 (ba [.bool false,.bool false,.bool false,.bool false,.bool false,.bool false,.bool false,.bool false,.bool false,.bool false,.bool false,.bool false,.bool false,.bool false,.bool false,.bool false,.bool false,.bool false,.bool false,.bool false,.bool false,.bool false,.bool false,.bool false,.bool false,.bool false,.bool false,.bool false,.bool false,.bool false,.bool false,.bool false,.bool false,.bool false,.bool false,.bool false,.bool false,.bool false,.bool false,.bool false,.bool false,.bool false,.bool false,.bool false,.bool false,.bool false,.bool false,.bool false,.bool false,.bool false,.bool false,.bool false,.bool false,.bool false,.bool false,.bool false,.bool false,.bool false,.bool false,.bool false,.bool false,.bool false,.bool false,.bool false,.bool false,.bool false,.bool false,.bool false,.bool false,.bool false,.bool false,.bool false,.bool false,.bool false,.bool false,.bool false,.bool false,.bool false,.bool false,.bool false,.bool false,.bool false,.bool false,.bool false,.bool false,.bool false,.bool false,.bool false,.bool false,.bool false,.bool false,.bool false,.bool false,.bool false,.bool false,.bool false,.bool false,.bool false,.bool false,.bool false,.bool false,.bool false,.bool false,.bool false,.bool false,.bool false,.bool false,.bool false,.bool false,.bool false,.bool false,.bool false,.bool false,.bool false,.bool false,.bool false,.bool false,.bool false,.bool false,.bool false,.bool false,.bool false,.bool false,.bool false,.bool false,.bool false,.bool false,.bool false,.bool false,.bool false,.bool false,.bool false,.bool false,.bool false,.bool false,.bool false,.bool false,.bool false,.bool false,.bool false,.bool false,.bool false,.bool false,.bool false,.bool false,.bool false,.bool false,.bool false,.bool false,.bool false,.bool false,.bool false,.bool false,.bool false,.bool false,.bool false,.bool false,.bool false,.bool false,.bool false,.bool false,.bool false,.bool false,.bool false,.bool false,.bool false,.bool false,.bool false,.bool false,.bool false,.bool false,.bool false,.bool false,.bool false,.bool false,.bool false,.bool false,.bool false,.bool false,.bool false,.bool false,.bool false,.bool false,.bool false,.bool false,.bool false,.bool false,.bool false,.bool false,.bool false,.bool false,.bool false,.bool false,.bool false,.bool false,.bool false,.bool false,.bool false,.bool false,.bool false,.bool false,.bool false,.bool false,.bool false,.bool false,.bool false,.bool false,.bool false,.bool false,.bool false,.bool false,.bool false,.bool false,.bool false,.bool false,.bool false,.bool false,.bool false,.bool false,.bool false,.bool false,.bool false,.bool false,.bool false,.bool false,.bool false,.bool false,.bool false,.bool false,.bool false,.bool false,.bool false,.bool false,.bool false,.bool false,.bool false,.bool false,.bool false,.bool false,.bool false,.bool false,.bool false,.bool false,.bool false,.bool false,.bool false,.bool false,.bool false,.bool false,.bool false,.bool false,.bool false,.bool false,.bool false,.bool false,.bool false])) fun t5 s4 =>
 ay (aw 256 t5 t32 s4) fun _ s5 =>
 br t33 (ay (aa 169 [a0,t5] s5) fun t36 s6 =>
 ay (aa 168 [t36,t5] s6) fun t37 s7 =>
 some (t37,s7))
 (ay (aa 171 [a0,a1] s5) fun t40 s8 =>
 ay (aa 170 [t40,a1] s8) fun t42 s9 =>
 some (t42,s9))))
theorem Ko (aa:ak) (N:Nat) (a0:T) (a1:T) (s:St):aS Tryz.prog aa N Tryz.f129 [a0,a1] s=f129 aa N a0 a1 s:=by kernel_rfl
theorem Gi (d:Nat) (a0:T) (a1:T) (s:St):R (d+1) 129 [a0,a1] s=f129 (R d) 8192 a0 a1 s:=(au rfl Tryz.func129 (by kernel_rfl)).trans (Ko ..)
def nD (aa:ak) (N:Nat) (v:List T) (s:St):Option (JO×St) :=
 bd (cj (v.getD 0 .any)) fun t6 =>
 bd (af .gtr t6 (I .i64 0)) fun t7 =>
 br t7 (jn (bd (dM (v.getD 0 .any) (I .i64 0)) fun t10 =>
 ay (aa 212 [(v.getD 1 .any),t10] s) fun t11 s1 =>
 bd (jO .not t11) fun t12 =>
 br t12 (some (.exit 0 [(v.getD 0 .any)],s1))
 (bd (bB (v.getD 0 .any) (some (I .i64 1)) none none) fun t14 =>
 some (.normal [t14,(v.getD 1 .any)],s1)))
 (fun v2 s3=>some (.normal [(v2.getD 0 .any),(v2.getD 1 .any)],s3))
 (fun i4 v2 s3=>some (.exit i4 v2,s3))
 (fun r5 s3=>some (.ret r5,s3)))
 (some (.exit 0 [(v.getD 0 .any)],s))
def f168 (aa:ak) (N:Nat) (a0:T) (a1:T) (s:St):Option (T×St) :=
 jn (jn (loops (nD aa N) N [a0,a1] s)
 (fun v6 s7=>some (.normal [.any],s7))
 (fun i8 v6 s7=>if i8=0 then some (.normal v6,s7) else some (.exit i8 v6,s7))
 (fun r9 s7=>some (.ret r9,s7)))
 (fun v10 bK=>some ((v10.getD 0 .any),bK))
 (fun i12 v10 bK=>none)
 (fun qK bK=>some (qK,bK))
theorem KN (aa:ak) (N:Nat) (a0:T) (a1:T) (s:St):aS Tryz.prog aa N Tryz.f168 [a0,a1] s=f168 aa N a0 a1 s:=by kernel_rfl
theorem Gy (d:Nat) (a0:T) (a1:T) (s:St):R (d+1) 168 [a0,a1] s=f168 (R d) 8192 a0 a1 s:=(au rfl Tryz.func168 (by kernel_rfl)).trans (KN ..)
def nE (aa:ak) (N:Nat) (v:List T) (s:St):Option (JO×St) :=
 bd (cj (v.getD 0 .any)) fun t6 =>
 bd (af .gtr t6 (I .i64 0)) fun t7 =>
 br t7 (jn (bd (cj (v.getD 0 .any)) fun t11 =>
 bd (af .sub t11 (I .i64 1)) fun t12 =>
 bd (dM (v.getD 0 .any) t12) fun t13 =>
 ay (aa 212 [(v.getD 1 .any),t13] s) fun t14 s1 =>
 bd (jO .not t14) fun t15 =>
 br t15 (some (.exit 0 [(v.getD 0 .any)],s1))
 (bd (cj (v.getD 0 .any)) fun t18 =>
 bd (af .sub t18 (I .i64 1)) fun t19 =>
 bd (bB (v.getD 0 .any) none (some t19) none) fun t20 =>
 some (.normal [t20,(v.getD 1 .any)],s1)))
 (fun v2 s3=>some (.normal [(v2.getD 0 .any),(v2.getD 1 .any)],s3))
 (fun i4 v2 s3=>some (.exit i4 v2,s3))
 (fun r5 s3=>some (.ret r5,s3)))
 (some (.exit 0 [(v.getD 0 .any)],s))
def f169 (aa:ak) (N:Nat) (a0:T) (a1:T) (s:St):Option (T×St) :=
 jn (jn (loops (nE aa N) N [a0,a1] s)
 (fun v6 s7=>some (.normal [.any],s7))
 (fun i8 v6 s7=>if i8=0 then some (.normal v6,s7) else some (.exit i8 v6,s7))
 (fun r9 s7=>some (.ret r9,s7)))
 (fun v10 bK=>some ((v10.getD 0 .any),bK))
 (fun i12 v10 bK=>none)
 (fun qK bK=>some (qK,bK))
theorem KO (aa:ak) (N:Nat) (a0:T) (a1:T) (s:St):aS Tryz.prog aa N Tryz.f169 [a0,a1] s=f169 aa N a0 a1 s:=by kernel_rfl
theorem Gz (d:Nat) (a0:T) (a1:T) (s:St):R (d+1) 169 [a0,a1] s=f169 (R d) 8192 a0 a1 s:=(au rfl Tryz.func169 (by kernel_rfl)).trans (KO ..)
def f212 (aa:ak) (N:Nat) (a0:T) (a1:T) (s:St):Option (T×St) :=
 bd (bu a0) fun t7 =>
 bd (bj 256 1 t7 a1) fun t8 =>
 bd (ab t8 s.get) fun t9 =>
 some (t9,s)
theorem Lb (aa:ak) (N:Nat) (a0:T) (a1:T) (s:St):aS Tryz.prog aa N Tryz.f212 [a0,a1] s=f212 aa N a0 a1 s:=by kernel_rfl
theorem GQ (d:Nat) (a0:T) (a1:T) (s:St):R (d+1) 212 [a0,a1] s=f212 (R d) 8192 a0 a1 s:=(au rfl Tryz.func212 (by kernel_rfl)).trans (Lb ..)
def f251 (aa:ak) (N:Nat) (a0:T) (a1:T) (a2:T) (s:St):Option (T×St) :=
 ay (aa 185 [a0,a1,a2] s) fun t13 s1 =>
 bd (ah t13 0) fun t14 =>
 bd (ah t13 1) fun t15 =>
 bd (Eh .i t15 (Z .iH)) fun t17 =>
 br t17 (ay (aa 139 [(Z (.str [80,97,114,115,101,73,110,116])),a0,a1,a2,t15] s1) fun t23 s2 =>
 bd (aQ [t14,t23]) fun r3 =>
 some (r3,s2))
 (bd (aQ [t14,(Z .iH)]) fun r4 =>
 some (r4,s1))
theorem Lm (aa:ak) (N:Nat) (a0:T) (a1:T) (a2:T) (s:St):aS Tryz.prog aa N Tryz.f251 [a0,a1,a2] s=f251 aa N a0 a1 a2 s:=by kernel_rfl
theorem GZ (d:Nat) (a0:T) (a1:T) (a2:T) (s:St):R (d+1) 251 [a0,a1,a2] s=f251 (R d) 8192 a0 a1 a2 s:=(au rfl Tryz.func251 (by kernel_rfl)).trans (Lm ..)
def f185 (aa:ak) (N:Nat) (a0:T) (a1:T) (a2:T) (s:St):Option (T×St) :=
 bd (af .eql a0 (Z (.str []))) fun t13 =>
 br t13 (bd ((none:Option T)) fun t14 =>
 bd (aQ [(I .i64 0),t14]) fun r1 =>
 some (r1,s))
 (bd (dM a0 (I .i64 0)) fun t16 =>
 jn (bd (af .eql t16 (I .u8 43)) fun t18 =>
 jn (br t18 (bd (bB a0 (some (I .i64 1)) none none) fun t20 =>
 some (.normal [t20,a1,a2,(B false)],s))
 (bd (af .eql t16 (I .u8 45)) fun t22 =>
 jn (br t22 (bd (bB a0 (some (I .i64 1)) none none) fun t24 =>
 some (.normal [t24,a1,a2,(B true)],s))
 (some (.normal [a0,a1,a2,(B false)],s)))
 (fun v2 s3=>some (.normal [(v2.getD 0 .any),(v2.getD 1 .any),(v2.getD 2 .any),(v2.getD 3 .any)],s3))
 (fun i4 v2 s3=>some (.exit i4 v2,s3))
 (fun r5 s3=>some (.ret r5,s3))))
 (fun v6 s7=>some (.normal [(v6.getD 0 .any),(v6.getD 1 .any),(v6.getD 2 .any),(v6.getD 3 .any)],s7))
 (fun i8 v6 s7=>if i8=0 then some (.normal v6,s7) else some (.exit i8 v6,s7))
 (fun r9 s7=>some (.ret r9,s7)))
 (fun v10 bK=>ay (aa 226 [(v10.getD 0 .any),(v10.getD 1 .any),(v10.getD 2 .any)] bK) fun t29 gB =>
 bd (ah t29 0) fun t30 =>
 bd (ah t29 1) fun t31 =>
 bd (Eh .i t31 (Z .iH)) fun t33 =>
 bd (gT (gd t33 true) (some t31)) fun t35 =>
 bd (gT (gd t33 true) ((none:Option T))) fun t36 =>
 bd (gT (gd t33 true) ((none:Option T))) fun t37 =>
 bd (aC t33 t37 (B false)) fun t38 =>
 br t38 (bd (aQ [(I .i64 0),t31]) fun II =>
 some (II,gB))
 (bd (af .eql (v10.getD 2 .any) (I .i64 0)) fun t41 =>
 jn (br t41 (some (.normal [(I .i64 64),(v10.getD 3 .any),t30],gB))
 (some (.normal [(v10.getD 2 .any),(v10.getD 3 .any),t30],gB)))
 (fun gO jd=>bd (af .sub (gO.getD 0 .any) (I .i64 1)) fun t43 =>
 bd (aF .u64 t43) fun t44 =>
 bd (af .shl (I .u64 1) t44) fun t45 =>
 bd (jO .not (gO.getD 1 .any)) fun t47 =>
 bd (gT (gd t47 true) (some (gO.getD 2 .any))) fun t49 =>
 bd (gT (gd t47 true) (some t45)) fun t50 =>
 bd (gT (gd t47 true) (af .geq t49 t50)) fun t51 =>
 bd (aC t47 t51 (B false)) fun t52 =>
 br t52 (bd (af .sub t45 (I .u64 1)) fun t54 =>
 bd (aF .i64 t54) fun t55 =>
 bd ((none:Option T)) fun t56 =>
 bd (aQ [t55,t56]) fun BF =>
 some (BF,jd))
 (bd (gT (gd (gO.getD 1 .any) true) (some (gO.getD 2 .any))) fun t59 =>
 bd (gT (gd (gO.getD 1 .any) true) (some t45)) fun t60 =>
 bd (gT (gd (gO.getD 1 .any) true) (af .gtr t59 t60)) fun t61 =>
 bd (aC (gO.getD 1 .any) t61 (B false)) fun t62 =>
 br t62 (bd (aF .i64 t45) fun t64 =>
 bd (jO .neg t64) fun t65 =>
 bd ((none:Option T)) fun t66 =>
 bd (aQ [t65,t66]) fun IJ =>
 some (IJ,jd))
 (bd (aF .i64 (gO.getD 2 .any)) fun t68 =>
 jn (br (gO.getD 1 .any) (bd (jO .neg t68) fun t71 =>
 some (.normal [t71],jd))
 (some (.normal [t68],jd)))
 (fun v22 mI=>bd (aQ [(v22.getD 0 .any),(Z .iH)]) fun Xn =>
 some (Xn,mI))
 (fun i24 v22 mI=>none)
 (fun Nb mI=>some (Nb,mI)))))
 (fun i18 gO jd=>none)
 (fun xp jd=>some (xp,jd))))
 (fun i12 v10 bK=>none)
 (fun qK bK=>some (qK,bK)))
theorem K3 (aa:ak) (N:Nat) (a0:T) (a1:T) (a2:T) (s:St):aS Tryz.prog aa N Tryz.f185 [a0,a1,a2] s=f185 aa N a0 a1 a2 s:=by kernel_rfl
theorem GL (d:Nat) (a0:T) (a1:T) (a2:T) (s:St):R (d+1) 185 [a0,a1,a2] s=f185 (R d) 8192 a0 a1 a2 s:=(au rfl Tryz.func185 (by kernel_rfl)).trans (K3 ..)
def qV (aa:ak) (N:Nat) (v:List T) (s:St):Option (JO×St) :=
 bd (af .lss (v.getD 9 .any) (v.getD 8 .any)) fun t102 =>
 br t102 (jn (bd (av 1 (v.getD 7 .any) (v.getD 9 .any)) fun t103 =>
 bd (ab t103 s.get) fun t104 =>
 jn (bd (af .eql t104 (I .u8 95)) fun t108 =>
 bd (gT (gd t108 true) (some (v.getD 1 .any))) fun t110 =>
 bd (aC t108 t110 (B false)) fun t111 =>
 br t111 (some (.exit 4 [(v.getD 0 .any),(v.getD 1 .any),(v.getD 2 .any),(v.getD 3 .any),(v.getD 4 .any),(B true),(v.getD 6 .any),(v.getD 7 .any),(v.getD 8 .any),(v.getD 9 .any)],s))
 (bd (af .leq (I .u8 48) t104) fun t114 =>
 bd (gT (gd t114 true) (some t104)) fun t116 =>
 bd (gT (gd t114 true) (af .leq t116 (I .u8 57))) fun t117 =>
 bd (aC t114 t117 (B false)) fun t118 =>
 jn (br t118 (bd (af .sub t104 (I .u8 48)) fun t120 =>
 some (.normal [(v.getD 0 .any),(v.getD 1 .any),(v.getD 2 .any),(v.getD 3 .any),(v.getD 4 .any),(v.getD 5 .any),(v.getD 6 .any),t120,(v.getD 7 .any),(v.getD 8 .any),(v.getD 9 .any)],s))
 (ay (aa 252 [t104] s) fun t123 N3 =>
 bd (af .leq (I .u8 97) t123) fun t124 =>
 bd (gT (gd t124 true) (some t104)) fun t126 =>
 ay (gS (gd t124 true) N3 (aa 252 [t126] N3)) fun t127 Zk =>
 bd (gT (gd t124 true) (af .leq t127 (I .u8 122))) fun t128 =>
 bd (aC t124 t128 (B false)) fun t129 =>
 br t129 (ay (aa 252 [t104] Zk) fun t131 s54 =>
 bd (af .sub t131 (I .u8 97)) fun t132 =>
 bd (af .add t132 (I .u8 10)) fun t133 =>
 some (.normal [(v.getD 0 .any),(v.getD 1 .any),(v.getD 2 .any),(v.getD 3 .any),(v.getD 4 .any),(v.getD 5 .any),(v.getD 6 .any),t133,(v.getD 7 .any),(v.getD 8 .any),(v.getD 9 .any)],s54))
 (bd ((none:Option T)) fun t105 =>
 bd (aQ [(I .u64 0),t105]) fun r55 =>
 some (.ret r55,Zk))))
 (fun C4 Rl=>some (.normal [(C4.getD 0 .any),(C4.getD 1 .any),(C4.getD 2 .any),(C4.getD 3 .any),(C4.getD 4 .any),(C4.getD 5 .any),(C4.getD 6 .any),(C4.getD 7 .any),(C4.getD 8 .any),(C4.getD 9 .any),(C4.getD 10 .any)],Rl))
 (fun i58 C4 Rl=>if i58=5 then some (.normal C4,Rl) else some (.exit i58 C4,Rl))
 (fun r59 Rl=>some (.ret r59,Rl))))
 (fun tV Nj=>bd (aF .u8 (tV.getD 0 .any)) fun t136 =>
 bd (af .geq (tV.getD 7 .any) t136) fun t137 =>
 br t137 (bd ((none:Option T)) fun t138 =>
 bd (aQ [(I .u64 0),t138]) fun r64 =>
 some (.ret r64,Nj))
 (bd (af .geq (tV.getD 6 .any) (tV.getD 3 .any)) fun t141 =>
 br t141 (bd ((none:Option T)) fun t143 =>
 bd (aQ [(tV.getD 4 .any),t143]) fun r65 =>
 some (.ret r65,Nj))
 (bd (aF .u64 (tV.getD 0 .any)) fun t146 =>
 bd (af .mul (tV.getD 6 .any) t146) fun t147 =>
 bd (aF .u64 (tV.getD 7 .any)) fun t150 =>
 bd (af .add t147 t150) fun t151 =>
 bd (af .lss t151 t147) fun t154 =>
 bd (gT (gd t154 false) (some t151)) fun t156 =>
 bd (gT (gd t154 false) (some (tV.getD 4 .any))) fun t157 =>
 bd (gT (gd t154 false) (af .gtr t156 t157)) fun t158 =>
 bd (aC t154 (B true) t158) fun t159 =>
 br t159 (bd ((none:Option T)) fun t161 =>
 bd (aQ [(tV.getD 4 .any),t161]) fun r66 =>
 some (.ret r66,Nj))
 (some (.normal [(tV.getD 0 .any),(tV.getD 1 .any),(tV.getD 2 .any),(tV.getD 3 .any),(tV.getD 4 .any),(tV.getD 5 .any),t151,(tV.getD 8 .any),(tV.getD 9 .any),(tV.getD 10 .any)],Nj)))))
 (fun i62 tV Nj=>if i62=4 then some (.normal tV,Nj) else some (.exit i62 tV,Nj))
 (fun r63 Nj=>some (.ret r63,Nj)))
 (fun Fa N4=>bd (af .add (Fa.getD 9 .any) (I .i64 1)) fun t163 =>
 some (.normal [(Fa.getD 0 .any),(Fa.getD 1 .any),(Fa.getD 2 .any),(Fa.getD 3 .any),(Fa.getD 4 .any),(Fa.getD 5 .any),(Fa.getD 6 .any),(Fa.getD 7 .any),(Fa.getD 8 .any),t163],N4))
 (fun i69 Fa N4=>some (.exit i69 Fa,N4))
 (fun r70 N4=>some (.ret r70,N4)))
 (some (.exit 3 [(v.getD 2 .any),(v.getD 5 .any),(v.getD 6 .any)],s))
def f226 (aa:ak) (N:Nat) (a0:T) (a1:T) (a2:T) (s:St):Option (T×St) :=
 bd (af .eql a0 (Z (.str []))) fun t19 =>
 br t19 (bd ((none:Option T)) fun t20 =>
 bd (aQ [(I .u64 0),t20]) fun r1 =>
 some (r1,s))
 (bd (af .eql a1 (I .i64 0)) fun t22 =>
 jn (bd (af .leq (I .i64 2) a1) fun t27 =>
 bd (gT (gd t27 true) (some a1)) fun t29 =>
 bd (gT (gd t27 true) (af .leq t29 (I .i64 36))) fun t30 =>
 bd (aC t27 t30 (B false)) fun t31 =>
 jn (br t31 (some (.normal [a0,a1,a2,t22,a0],s))
 (bd (af .eql a1 (I .i64 0)) fun t34 =>
 br t34 (bd (dM a0 (I .i64 0)) fun t36 =>
 bd (af .eql t36 (I .u8 48)) fun t37 =>
 jn (br t37 (jn (bd (cj a0) fun t42 =>
 bd (af .geq t42 (I .i64 3)) fun t43 =>
 bd (gT (gd t43 true) (some a0)) fun t45 =>
 bd (gT (gd t43 true) (dM t45 (I .i64 1))) fun t46 =>
 ay (gS (gd t43 true) s (aa 252 [t46] s)) fun t47 s2 =>
 bd (gT (gd t43 true) (af .eql t47 (I .u8 98))) fun t48 =>
 bd (aC t43 t48 (B false)) fun t49 =>
 jn (br t49 (bd (bB a0 (some (I .i64 2)) none none) fun t51 =>
 some (.normal [t51,(I .i64 2),a2,t22,a0],s2))
 (bd (cj a0) fun t54 =>
 bd (af .geq t54 (I .i64 3)) fun t55 =>
 bd (gT (gd t55 true) (some a0)) fun t57 =>
 bd (gT (gd t55 true) (dM t57 (I .i64 1))) fun t58 =>
 ay (gS (gd t55 true) s2 (aa 252 [t58] s2)) fun t59 s3 =>
 bd (gT (gd t55 true) (af .eql t59 (I .u8 111))) fun t60 =>
 bd (aC t55 t60 (B false)) fun t61 =>
 jn (br t61 (bd (bB a0 (some (I .i64 2)) none none) fun t63 =>
 some (.normal [t63,(I .i64 8),a2,t22,a0],s3))
 (bd (cj a0) fun t66 =>
 bd (af .geq t66 (I .i64 3)) fun t67 =>
 bd (gT (gd t67 true) (some a0)) fun t69 =>
 bd (gT (gd t67 true) (dM t69 (I .i64 1))) fun t70 =>
 ay (gS (gd t67 true) s3 (aa 252 [t70] s3)) fun t71 s4 =>
 bd (gT (gd t67 true) (af .eql t71 (I .u8 120))) fun t72 =>
 bd (aC t67 t72 (B false)) fun t73 =>
 jn (br t73 (bd (bB a0 (some (I .i64 2)) none none) fun t75 =>
 some (.normal [t75,(I .i64 16),a2,t22,a0],s4))
 (bd (bB a0 (some (I .i64 1)) none none) fun t39 =>
 some (.normal [t39,(I .i64 8),a2,t22,a0],s4)))
 (fun v5 s6=>some (.normal [(v5.getD 0 .any),(v5.getD 1 .any),(v5.getD 2 .any),(v5.getD 3 .any),(v5.getD 4 .any)],s6))
 (fun i7 v5 s6=>some (.exit i7 v5,s6))
 (fun r8 s6=>some (.ret r8,s6))))
 (fun v9 bV=>some (.normal [(v9.getD 0 .any),(v9.getD 1 .any),(v9.getD 2 .any),(v9.getD 3 .any),(v9.getD 4 .any)],bV))
 (fun i11 v9 bV=>some (.exit i11 v9,bV))
 (fun Eo bV=>some (.ret Eo,bV))))
 (fun kI gB=>some (.normal [(kI.getD 0 .any),(kI.getD 1 .any),(kI.getD 2 .any),(kI.getD 3 .any),(kI.getD 4 .any)],gB))
 (fun i15 kI gB=>if i15=1 then some (.normal kI,gB) else some (.exit i15 kI,gB))
 (fun r16 gB=>some (.ret r16,gB)))
 (fun js iM=>some (.normal [(js.getD 0 .any),(js.getD 1 .any),(js.getD 2 .any),(js.getD 3 .any),(js.getD 4 .any)],iM))
 (fun i19 js iM=>some (.exit i19 js,iM))
 (fun BF iM=>some (.ret BF,iM)))
 (some (.normal [a0,(I .i64 10),a2,t22,a0],s)))
 (fun v21 iO=>some (.normal [(v21.getD 0 .any),(v21.getD 1 .any),(v21.getD 2 .any),(v21.getD 3 .any),(v21.getD 4 .any)],iO))
 (fun i23 v21 iO=>some (.exit i23 v21,iO))
 (fun IK iO=>some (.ret IK,iO)))
 (bd ((none:Option T)) fun t24 =>
 bd (aQ [(I .u64 0),t24]) fun Nb =>
 some (.ret Nb,s))))
 (fun v26 rz=>some (.normal [(v26.getD 0 .any),(v26.getD 1 .any),(v26.getD 2 .any),(v26.getD 3 .any),(v26.getD 4 .any)],rz))
 (fun i28 v26 rz=>if i28=0 then some (.normal v26,rz) else some (.exit i28 v26,rz))
 (fun Xo rz=>some (.ret Xo,rz)))
 (fun v30 xU=>bd (af .eql (v30.getD 2 .any) (I .i64 0)) fun t77 =>
 jn (br t77 (some (.normal [(v30.getD 0 .any),(v30.getD 1 .any),(I .i64 64),(v30.getD 3 .any),(v30.getD 4 .any)],xU))
 (bd (af .lss (v30.getD 2 .any) (I .i64 0)) fun t79 =>
 bd (gT (gd t79 false) (some (v30.getD 2 .any))) fun t81 =>
 bd (gT (gd t79 false) (af .gtr t81 (I .i64 64))) fun t82 =>
 bd (aC t79 (B true) t82) fun t83 =>
 br t83 (bd ((none:Option T)) fun t84 =>
 bd (aQ [(I .u64 0),t84]) fun r34 =>
 some (.ret r34,xU))
 (some (.normal [(v30.getD 0 .any),(v30.getD 1 .any),(v30.getD 2 .any),(v30.getD 3 .any),(v30.getD 4 .any)],xU))))
 (fun v35 E3=>jn (bd (af .eql (v35.getD 1 .any) (I .i64 10)) fun t91 =>
 jn (br t91 (some (.normal [(v35.getD 0 .any),(v35.getD 1 .any),(v35.getD 2 .any),(v35.getD 3 .any),(v35.getD 4 .any),(I .u64 1844674407370955162)],E3))
 (bd (af .eql (v35.getD 1 .any) (I .i64 16)) fun t93 =>
 jn (br t93 (some (.normal [(v35.getD 0 .any),(v35.getD 1 .any),(v35.getD 2 .any),(v35.getD 3 .any),(v35.getD 4 .any),(I .u64 1152921504606846976)],E3))
 (bd (aF .u64 (v35.getD 1 .any)) fun t87 =>
 bd (af .quo (I .u64 18446744073709551615) t87) fun t88 =>
 bd (af .add t88 (I .u64 1)) fun t89 =>
 some (.normal [(v35.getD 0 .any),(v35.getD 1 .any),(v35.getD 2 .any),(v35.getD 3 .any),(v35.getD 4 .any),t89],E3)))
 (fun E8 Ad=>some (.normal [(E8.getD 0 .any),(E8.getD 1 .any),(E8.getD 2 .any),(E8.getD 3 .any),(E8.getD 4 .any),(E8.getD 5 .any)],Ad))
 (fun i41 E8 Ad=>some (.exit i41 E8,Ad))
 (fun Xu Ad=>some (.ret Xu,Ad))))
 (fun E9 CZ=>some (.normal [(E9.getD 0 .any),(E9.getD 1 .any),(E9.getD 2 .any),(E9.getD 3 .any),(E9.getD 4 .any),(E9.getD 5 .any)],CZ))
 (fun i45 E9 CZ=>if i45=2 then some (.normal E9,CZ) else some (.exit i45 E9,CZ))
 (fun Xw CZ=>some (.ret Xw,CZ)))
 (fun Qw E5=>bd (aF .u64 (Qw.getD 2 .any)) fun t95 =>
 bd (af .shl (I .u64 1) t95) fun t96 =>
 bd (af .sub t96 (I .u64 1)) fun t97 =>
 ay (aK E5 (td (Qw.getD 0 .any))) fun t99 Qp =>
 bd (aA t99) fun t100 =>
 jn (jn (loops (qV aa N) N [(Qw.getD 1 .any),(Qw.getD 3 .any),(Qw.getD 4 .any),(Qw.getD 5 .any),t97,(B false),(I .u64 0),t99,t100,(I .i64 0)] Qp)
 (fun XH Rm=>some (.normal [.any,.any,.any],Rm))
 (fun i73 XH Rm=>if i73=3 then some (.normal XH,Rm) else some (.exit i73 XH,Rm))
 (fun r74 Rm=>some (.ret r74,Rm)))
 (fun v75 Tv=>bd (gT (gd (v75.getD 1 .any) true) (some (v75.getD 0 .any))) fun t166 =>
 ay (gS (gd (v75.getD 1 .any) true) Tv (aa 253 [t166] Tv)) fun t167 Zo =>
 bd (gT (gd (v75.getD 1 .any) true) (jO .not t167)) fun t168 =>
 bd (aC (v75.getD 1 .any) t168 (B false)) fun t169 =>
 br t169 (bd ((none:Option T)) fun t170 =>
 bd (aQ [(I .u64 0),t170]) fun r80 =>
 some (r80,Zo))
 (bd (aQ [(v75.getD 2 .any),(Z .iH)]) fun r81 =>
 some (r81,Zo)))
 (fun i77 v75 Tv=>none)
 (fun r78 Tv=>some (r78,Tv)))
 (fun i49 Qw E5=>none)
 (fun Ts E5=>some (Ts,E5)))
 (fun i37 v35 E3=>none)
 (fun Xr E3=>some (Xr,E3)))
 (fun i32 v30 xU=>none)
 (fun Xp xU=>some (Xp,xU)))
theorem Lj (aa:ak) (N:Nat) (a0:T) (a1:T) (a2:T) (s:St):aS Tryz.prog aa N Tryz.f226 [a0,a1,a2] s=f226 aa N a0 a1 a2 s:=by kernel_rfl
theorem GY (d:Nat) (a0:T) (a1:T) (a2:T) (s:St):R (d+1) 226 [a0,a1,a2] s=f226 (R d) 8192 a0 a1 a2 s:=(au rfl Tryz.func226 (by kernel_rfl)).trans (Lj ..)
end
noncomputable section
def f223 (aa:ak) (N:Nat) (a0:T) (s:St):Option (T×St) :=
 bd (cj a0) fun t7 =>
 bd (af .lss t7 (I .i64 1)) fun t8 =>
 bd (gT (gd t8 false) (some a0)) fun t10 =>
 bd (gT (gd t8 false) (cj t10)) fun t11 =>
 bd (gT (gd t8 false) (af .gtr t11 (I .i64 13))) fun t12 =>
 bd (aC t8 (B true) t12) fun t13 =>
 bd (gT (gd t13 false) (some a0)) fun t15 =>
 ay (gS (gd t13 false) s (aa 129 [t15,(Z (.str [48,49,50,51,52,53,54,55,56,57]))] s)) fun t16 s1 =>
 bd (gT (gd t13 false) (af .neq t16 (Z (.str [])))) fun t17 =>
 bd (aC t13 (B true) t17) fun t18 =>
 br t18 (bd (aQ [(I .i64 0),(B false)]) fun r2 =>
 some (r2,s1))
 (ay (aa 251 [a0,(I .i64 10),(I .i64 64)] s1) fun t21 s3 =>
 bd (ah t21 0) fun t22 =>
 bd (ah t21 1) fun t23 =>
 bd (iC .i t23 (Z .iH)) fun t26 =>
 bd (aQ [t22,t26]) fun r4 =>
 some (r4,s3))
theorem Lg (aa:ak) (N:Nat) (a0:T) (s:St):aS Tryz.prog aa N Tryz.f223 [a0] s=f223 aa N a0 s:=by kernel_rfl
theorem GV (d:Nat) (a0:T) (s:St):R (d+1) 223 [a0] s=f223 (R d) 8192 a0 s:=(au rfl Tryz.func223 (by kernel_rfl)).trans (Lg ..)
def f225 (aa:ak) (N:Nat) (s:St):Option (T×St) :=
 ay (aK s (aR 4 (aE [.str [],.str [],.str [],.str []] [(0,1,(Z (.str [114,97,119]))),(1,1,(Z (.str [53,109]))),(2,1,(Z (.str [49,104]))),(3,1,(Z (.str [49,100])))]))) fun t1 s1 =>
 some (t1,s1)
theorem Li (aa:ak) (N:Nat) (s:St):aS Tryz.prog aa N Tryz.f225 [] s=f225 aa N s:=by kernel_rfl
theorem GX (d:Nat) (s:St):R (d+1) 225 [] s=f225 (R d) 8192 s:=(au rfl Tryz.func225 (by kernel_rfl)).trans (Li ..)
def f182 (aa:ak) (N:Nat) (a0:T) (a1:T) (s:St):Option (T×St) :=
 bd (aA a1) fun t11 =>
 bd (af .sub t11 (I .i64 1)) fun t12 =>
 bd (av 1 a1 t12) fun t13 =>
 bd (ab t13 s.get) fun t14 =>
 ay (aa 223 [t14] s) fun t15 s1 =>
 bd (ah t15 0) fun t16 =>
 bd (ah t15 1) fun t17 =>
 jn (bd (av 1 a1 (I .i64 0)) fun t20 =>
 bd (ab t20 s1.get) fun t21 =>
 bd (af .eql t21 (Z (.str [107,101,101,112]))) fun t22 =>
 bd (gT (gd t22 true) (some a1)) fun t24 =>
 bd (gT (gd t22 true) (aA t24)) fun t25 =>
 bd (gT (gd t22 true) (af .eql t25 (I .i64 3))) fun t26 =>
 bd (aC t22 t26 (B false)) fun t27 =>
 jn (br t27 (ay (aa 225 [] s1) fun t28 s2 =>
 bd (av 1 a1 (I .i64 1)) fun t30 =>
 bd (ab t30 s2.get) fun t31 =>
 ay (aa 224 [t28,t31] s2) fun t32 s3 =>
 ck ((decide (ab t30 s1.get=ab t30 s2.get)&&true)&&true) (bd (af .lss t32 (I .i64 0)) fun t34 =>
 bd (gT (gd t34 false) (some t17)) fun t36 =>
 bd (gT (gd t34 false) (jO .not t36)) fun t37 =>
 bd (gT (gd t34 false) (some t37)) fun t38 =>
 bd (gT (gd t38 true) (some a1)) fun t39 =>
 bd (gT (gd t38 true) (av 1 t39 (I .i64 2))) fun t40 =>
 bd (gT (gd t38 true) (ab t40 s3.get)) fun t41 =>
 bd (gT (gd t38 true) (af .neq t41 (Z (.str [101,118,101,114])))) fun t42 =>
 bd (gT (gd t34 false) (aC t38 t42 (B false))) fun t43 =>
 bd (aC t34 (B true) t43) fun t44 =>
 br t44 (some (.ret (B false),s3))
 (bd (bu a0) fun t48 =>
 bd (ae 0 t48) fun t49 =>
 bd (bj 4 1 t49 t32) fun t50 =>
 ay (aw 1 t50 t16 s3) fun _ s4 =>
 some (.normal [],s4))))
 (bd (av 1 a1 (I .i64 0)) fun t53 =>
 bd (ab t53 s1.get) fun t54 =>
 bd (af .eql t54 (Z (.str [115,101,97,108]))) fun t55 =>
 bd (gT (gd t55 true) (some a1)) fun t57 =>
 bd (gT (gd t55 true) (aA t57)) fun t58 =>
 bd (gT (gd t55 true) (af .eql t58 (I .i64 2))) fun t59 =>
 bd (aC t55 t59 (B false)) fun t60 =>
 bd (gT (gd t60 true) (some t17)) fun t62 =>
 bd (aC t60 t62 (B false)) fun t63 =>
 jn (br t63 (bd (bu a0) fun t66 =>
 bd (ae 4 t66) fun t67 =>
 ay (aw 1 t67 t16 s1) fun _ s5 =>
 some (.normal [],s5))
 (bd (av 1 a1 (I .i64 0)) fun t70 =>
 bd (ab t70 s1.get) fun t71 =>
 bd (af .eql t71 (Z (.str [115,112,97,110]))) fun t72 =>
 bd (gT (gd t72 true) (some a1)) fun t74 =>
 bd (gT (gd t72 true) (aA t74)) fun t75 =>
 bd (gT (gd t72 true) (af .eql t75 (I .i64 2))) fun t76 =>
 bd (aC t72 t76 (B false)) fun t77 =>
 bd (gT (gd t77 true) (some t17)) fun t79 =>
 bd (aC t77 t79 (B false)) fun t80 =>
 br t80 (bd (bu a0) fun t83 =>
 bd (ae 5 t83) fun t84 =>
 ay (aw 1 t84 t16 s1) fun _ s6 =>
 some (.normal [],s6))
 (some (.ret (B false),s1))))
 (fun v7 s8=>some (.normal [],s8))
 (fun i9 v7 s8=>some (.exit i9 v7,s8))
 (fun pH s8=>some (.ret pH,s8))))
 (fun v11 cd=>some (.normal [],cd))
 (fun i13 v11 cd=>if i13=0 then some (.normal v11,cd) else some (.exit i13 v11,cd))
 (fun xo cd=>some (.ret xo,cd)))
 (fun ox gC=>some ((B true),gC))
 (fun i17 ox gC=>none)
 (fun Er gC=>some (Er,gC))
theorem KX (aa:ak) (N:Nat) (a0:T) (a1:T) (s:St):aS Tryz.prog aa N Tryz.f182 [a0,a1] s=f182 aa N a0 a1 s:=by kernel_rfl
theorem GI (d:Nat) (a0:T) (a1:T) (s:St):R (d+1) 182 [a0,a1] s=f182 (R d) 8192 a0 a1 s:=(au rfl Tryz.func182 (by kernel_rfl)).trans (KX ..)
def gi (aa:ak) (N:Nat) (v:List T) (s:St):Option (JO×St) :=
 bd (af .lss (v.getD 2 .any) (I .i64 4)) fun t9 =>
 br t9 (jn (bd (oJ none 4 1 (v.getD 1 .any) (v.getD 2 .any)) fun t11 =>
 bd (af .lss t11 (I .i64 0)) fun t13 =>
 bd (gT (gd t13 false) (some t11)) fun t15 =>
 bd (gT (gd t13 false) (af .gtr t15 (I .i64 1099511627776))) fun t16 =>
 bd (aC t13 (B true) t16) fun t17 =>
 br t17 (some (.ret (B false),s))
 (bd (af .eql (v.getD 2 .any) (I .i64 0)) fun t19 =>
 br t19 (some (.normal [(v.getD 0 .any),(v.getD 1 .any),(v.getD 2 .any)],s))
 (bd (af .sub (v.getD 2 .any) (I .i64 1)) fun t21 =>
 bd (ae 0 (v.getD 0 .any)) fun t22 =>
 bd (bj 4 1 t22 t21) fun t23 =>
 bd (ab t23 s.get) fun t24 =>
 bd (af .neq t11 (I .i64 0)) fun t26 =>
 bd (gT (gd t26 true) (some t11)) fun t28 =>
 bd (gT (gd t26 true) (some t24)) fun t29 =>
 bd (gT (gd t26 true) (af .lss t28 t29)) fun t30 =>
 bd (gT (gd t26 true) (some t30)) fun t31 =>
 bd (gT (gd t31 false) (some t24)) fun t32 =>
 bd (gT (gd t31 false) (af .eql t32 (I .i64 0))) fun t33 =>
 bd (gT (gd t26 true) (aC t31 (B true) t33)) fun t34 =>
 bd (aC t26 t34 (B false)) fun t35 =>
 br t35 (some (.ret (B false),s))
 (some (.normal [(v.getD 0 .any),(v.getD 1 .any),(v.getD 2 .any)],s)))))
 (fun v2 s3=>bd (af .add (v2.getD 2 .any) (I .i64 1)) fun t36 =>
 some (.normal [(v2.getD 0 .any),(v2.getD 1 .any),t36],s3))
 (fun i4 v2 s3=>some (.exit i4 v2,s3))
 (fun r5 s3=>some (.ret r5,s3)))
 (some (.exit 0 [(v.getD 0 .any)],s))
def f184 (aa:ak) (N:Nat) (a0:T) (s:St):Option (T×St) :=
 ay (aK s (ct a0)) fun t1 s1 =>
 bd (ae 0 t1) fun t6 =>
 bd (aG 4 t6 s1.get) fun t7 =>
 jn (jn (loops (gi aa N) N [t1,t7,(I .i64 0)] s1)
 (fun v6 s7=>some (.normal [.any],s7))
 (fun i8 v6 s7=>if i8=0 then some (.normal v6,s7) else some (.exit i8 v6,s7))
 (fun r9 s7=>some (.ret r9,s7)))
 (fun v10 bK=>bd (ae 0 (v10.getD 0 .any)) fun t37 =>
 bd (bj 4 1 t37 (I .i64 3)) fun t38 =>
 bd (ab t38 bK.get) fun t39 =>
 bd (af .eql t39 (I .i64 0)) fun t40 =>
 bd (gT (gd t40 true) (ae 4 (v10.getD 0 .any))) fun t42 =>
 bd (gT (gd t40 true) (ab t42 bK.get)) fun t43 =>
 bd (gT (gd t40 true) (af .geq t43 (I .i64 1))) fun t44 =>
 bd (aC t40 t44 (B false)) fun t45 =>
 bd (gT (gd t45 true) (ae 4 (v10.getD 0 .any))) fun t47 =>
 bd (gT (gd t45 true) (ab t47 bK.get)) fun t48 =>
 bd (gT (gd t45 true) (af .leq t48 (I .i64 64))) fun t49 =>
 bd (aC t45 t49 (B false)) fun t50 =>
 bd (gT (gd t50 true) (ae 5 (v10.getD 0 .any))) fun t52 =>
 bd (gT (gd t50 true) (ab t52 bK.get)) fun t53 =>
 bd (gT (gd t50 true) (af .geq t53 (I .i64 1))) fun t54 =>
 bd (aC t50 t54 (B false)) fun t55 =>
 bd (gT (gd t55 true) (ae 5 (v10.getD 0 .any))) fun t57 =>
 bd (gT (gd t55 true) (ab t57 bK.get)) fun t58 =>
 bd (gT (gd t55 true) (af .leq t58 (I .i64 200))) fun t59 =>
 bd (aC t55 t59 (B false)) fun t60 =>
 some (t60,bK))
 (fun i12 v10 bK=>none)
 (fun qK bK=>some (qK,bK))
theorem KZ (aa:ak) (N:Nat) (a0:T) (s:St):aS Tryz.prog aa N Tryz.f184 [a0] s=f184 aa N a0 s:=by kernel_rfl
theorem GK (d:Nat) (a0:T) (s:St):R (d+1) 184 [a0] s=f184 (R d) 8192 a0 s:=(au rfl Tryz.func184 (by kernel_rfl)).trans (KZ ..)
def lR (aa:ak) (N:Nat) (v:List T) (s:St):Option (JO×St) :=
 bd (af .lss (v.getD 10 .any) (v.getD 9 .any)) fun t32 =>
 br t32 (jn (bd (av 1 (v.getD 8 .any) (v.getD 10 .any)) fun t33 =>
 bd (ab t33 s.get) fun t34 =>
 bd (af .neq t34 (Z (.str []))) fun t36 =>
 jn (br t36 (ay (aK s (aR 1 (aE [.str []] [(0,1,t34)]))) fun t39 s8 =>
 ay (aH 1 16 (v.getD 4 .any) t39 s8) fun t40 s9 =>
 some (.normal [(v.getD 0 .any),(v.getD 1 .any),(v.getD 2 .any),(v.getD 3 .any),t40,(v.getD 5 .any),(v.getD 6 .any),(v.getD 7 .any),(v.getD 8 .any),(v.getD 9 .any),(v.getD 10 .any)],s9))
 (some (.normal [(v.getD 0 .any),(v.getD 1 .any),(v.getD 2 .any),(v.getD 3 .any),(v.getD 4 .any),(v.getD 5 .any),(v.getD 6 .any),(v.getD 7 .any),(v.getD 8 .any),(v.getD 9 .any),(v.getD 10 .any)],s)))
 (fun v10 bK=>some (.normal [(v10.getD 0 .any),(v10.getD 1 .any),(v10.getD 2 .any),(v10.getD 3 .any),(v10.getD 4 .any),(v10.getD 5 .any),(v10.getD 6 .any),(v10.getD 7 .any),(v10.getD 8 .any),(v10.getD 9 .any),(v10.getD 10 .any)],bK))
 (fun i12 v10 bK=>if i12=3 then some (.normal v10,bK) else some (.exit i12 v10,bK))
 (fun qK bK=>some (.ret qK,bK)))
 (fun jh gH=>bd (af .add (jh.getD 10 .any) (I .i64 1)) fun t41 =>
 some (.normal [(jh.getD 0 .any),(jh.getD 1 .any),(jh.getD 2 .any),(jh.getD 3 .any),(jh.getD 4 .any),(jh.getD 5 .any),(jh.getD 6 .any),(jh.getD 7 .any),(jh.getD 8 .any),(jh.getD 9 .any),t41],gH))
 (fun i16 jh gH=>some (.exit i16 jh,gH))
 (fun Ep gH=>some (.ret Ep,gH)))
 (some (.exit 2 [(v.getD 0 .any),(v.getD 1 .any),(v.getD 2 .any),(v.getD 3 .any),(v.getD 4 .any),(v.getD 5 .any),(v.getD 6 .any),(v.getD 7 .any)],s))
def jR (aa:ak) (N:Nat) (v:List T) (s:St):Option (JO×St) :=
 bd (af .lss (v.getD 5 .any) (v.getD 4 .any)) fun t18 =>
 br t18 (jn (bd (av 1 (v.getD 3 .any) (v.getD 5 .any)) fun t20 =>
 bd (ab t20 s.get) fun t21 =>
 ay (aa 180 [t21,(Z (.str [35]))] s) fun t24 s6 =>
 bd (ah t24 0) fun t25 =>
 bd (ah t24 1) fun t26 =>
 bd (ah t24 2) fun t27 =>
 ay (aa 179 [t25,(Z (.str [32]))] s6) fun t29 s7 =>
 bd (aA t29) fun t30 =>
 jn (jn (loops (lR aa N) N [(v.getD 0 .any),(v.getD 1 .any),(v.getD 2 .any),(v.getD 5 .any),(Z .az),(v.getD 3 .any),(v.getD 4 .any),(v.getD 5 .any),t29,t30,(I .i64 0)] s7)
 (fun mL lF=>some (.normal [.any,.any,.any,.any,.any,.any,.any,.any],lF))
 (fun i20 mL lF=>if i20=2 then some (.normal mL,lF) else some (.exit i20 mL,lF))
 (fun IJ lF=>some (.ret IJ,lF)))
 (fun v22 mI=>bd (aA (v22.getD 4 .any)) fun t43 =>
 bd (af .eql t43 (I .i64 0)) fun t44 =>
 br t44 (some (.normal [(v22.getD 0 .any),(v22.getD 1 .any),(v22.getD 2 .any),(v22.getD 5 .any),(v22.getD 6 .any),(v22.getD 7 .any)],mI))
 (bd (aA (v22.getD 4 .any)) fun t47 =>
 bd (af .sub t47 (I .i64 1)) fun t48 =>
 bd (ax 1 (v22.getD 4 .any) none (some t48) none) fun t49 =>
 ay (aa 181 [t49,(Z (.str [32]))] mI) fun t50 mi =>
 ay (aa 182 [(v22.getD 1 .any),(v22.getD 4 .any)] mi) fun t52 rz =>
 bd (jO .not t52) fun t53 =>
 bd (gT (gd t53 false) (some (v22.getD 2 .any))) fun t55 =>
 bd (gT (gd t53 false) (some t50)) fun t56 =>
 ay (gS (gd t53 false) rz (aa 183 [t55,t56] rz)) fun t57 Ev =>
 bd (aC t53 (B true) t57) fun t58 =>
 br t58 (bd (aU (aE [.int .i64 0,.int .i64 0,.int .i64 0,.int .i64 0,.int .i64 0,.int .i64 0] [])) fun t59 =>
 bd (af .add (v22.getD 3 .any) (I .i64 1)) fun t61 =>
 ay (aw 6 (v22.getD 0 .any) t59 Ev) fun _ m6 =>
 bd (rC (aG 6 (v22.getD 0 .any) m6.get) (rT (I .i64 4) (rT t61 (some [])))) fun l30=>bd (aQ l30) fun IL =>
 some (.ret IL,m6))
 (ay (aK Ev (aR 1 (aE [.str []] [(0,1,t50)]))) fun t64 Tu =>
 ay (aH 1 16 (v22.getD 2 .any) t64 Tu) fun t65 rA =>
 some (.normal [(v22.getD 0 .any),(v22.getD 1 .any),t65,(v22.getD 5 .any),(v22.getD 6 .any),(v22.getD 7 .any)],rA))))
 (fun i24 v22 mI=>if i24=1 then some (.normal v22,mI) else some (.exit i24 v22,mI))
 (fun Nb mI=>some (.ret Nb,mI)))
 (fun B4 CX=>bd (af .add (B4.getD 5 .any) (I .i64 1)) fun t66 =>
 some (.normal [(B4.getD 0 .any),(B4.getD 1 .any),(B4.getD 2 .any),(B4.getD 3 .any),(B4.getD 4 .any),t66],CX))
 (fun i36 B4 CX=>some (.exit i36 B4,CX))
 (fun Tp CX=>some (.ret Tp,CX)))
 (some (.exit 0 [(v.getD 0 .any),(v.getD 1 .any)],s))
def f137 (aa:ak) (N:Nat) (a0:T) (s:St):Option (T×St) :=
 ay (aK s (ba [.int .i64 0,.int .i64 0,.int .i64 0,.int .i64 0,.int .i64 0,.int .i64 0])) fun t2 s1 =>
 ay (aa 91 [] s1) fun t13 s2 =>
 ay (aK s2 (ba [.int .i64 0,.int .i64 0,.int .i64 0,.int .i64 0,.int .i64 0,.int .i64 0])) fun t5 s3 =>
 ay (aw 6 t5 t13 s3) fun _ s4 =>
 ay (aa 179 [a0,(Z (.str [10]))] s4) fun t15 s5 =>
 bd (aA t15) fun t16 =>
 jn (jn (loops (jR aa N) N [t2,t5,(Z .az),t15,t16,(I .i64 0)] s5)
 (fun Jq Ew=>some (.normal [.any,.any],Ew))
 (fun i40 Jq Ew=>if i40=0 then some (.normal Jq,Ew) else some (.exit i40 Jq,Ew))
 (fun Tq Ew=>some (.ret Tq,Ew)))
 (fun qB zC=>bd (aG 6 (qB.getD 1 .any) zC.get) fun t67 =>
 ay (aa 184 [t67] zC) fun t68 Ae =>
 bd (jO .not t68) fun t69 =>
 br t69 (bd (aU (aE [.int .i64 0,.int .i64 0,.int .i64 0,.int .i64 0,.int .i64 0,.int .i64 0] [])) fun t70 =>
 ay (aw 6 (qB.getD 0 .any) t70 Ae) fun _ E4 =>
 bd (rC (aG 6 (qB.getD 0 .any) E4.get) (rT (I .i64 5) (rT (I .i64 0) (some [])))) fun l48=>bd (aQ l48) fun r49 =>
 some (r49,E4))
 (bd (aG 6 (qB.getD 1 .any) Ae.get) fun t71 =>
 ay (aw 6 (qB.getD 0 .any) t71 Ae) fun _ Ni =>
 bd (rC (aG 6 (qB.getD 0 .any) Ni.get) (rT (I .i64 0) (rT (I .i64 0) (some [])))) fun l51=>bd (aQ l51) fun r52 =>
 some (r52,Ni)))
 (fun i44 qB zC=>none)
 (fun Xv zC=>some (Xv,zC))
theorem Kw (aa:ak) (N:Nat) (a0:T) (s:St):aS Tryz.prog aa N Tryz.f137 [a0] s=f137 aa N a0 s:=by kernel_rfl
theorem Gn (d:Nat) (a0:T) (s:St):R (d+1) 137 [a0] s=f137 (R d) 8192 a0 s:=(au rfl Tryz.func137 (by kernel_rfl)).trans (Kw ..)
def f91 (aa:ak) (N:Nat) (s:St):Option (T×St) :=
 ay (aK s (ba [.int .i64 0,.int .i64 0,.int .i64 0,.int .i64 0,.int .i64 0,.int .i64 0])) fun t0 s1 =>
 bd (aU (aE [.int .i64 0,.int .i64 0,.int .i64 0,.int .i64 0] [(0,1,(I .i64 60)),(1,1,(I .i64 600)),(2,1,(I .i64 6000)),(3,1,(I .i64 0))])) fun t1 =>
 bd (aU (aE [.int .i64 0,.int .i64 0,.int .i64 0,.int .i64 0,.int .i64 0,.int .i64 0] [(0,4,t1),(4,1,(I .i64 8)),(5,1,(I .i64 30))])) fun t2 =>
 ay (aw 6 t0 t2 s1) fun _ s2 =>
 bd (rC (aG 6 t0 s2.get) (some [])) fun l3=>bd (aQ l3) fun r4 =>
 some (r4,s2)
theorem Pf (aa:ak) (N:Nat) (s:St):aS Tryz.prog aa N Tryz.f91 [] s=f91 aa N s:=by kernel_rfl
theorem LQ (d:Nat) (s:St):R (d+1) 91 [] s=f91 (R d) 8192 s:=(au rfl Tryz.func91 (by kernel_rfl)).trans (Pf ..)
end
noncomputable section
def nC (aa:ak) (N:Nat) (v:List T) (s:St):Option (JO×St) :=
 bd (af .geq (v.getD 0 .any) (I .u64 128)) fun t5 =>
 br t5 (jn (bd (aF .u8 (v.getD 0 .any)) fun t8 =>
 bd (af .or t8 (I .u8 128)) fun t9 =>
 ay (aK s (aR 1 (aE [.int .u8 0] [(0,1,t9)]))) fun t10 s1 =>
 ay (aH 1 1 (v.getD 1 .any) t10 s1) fun t11 s2 =>
 bd (af .shr (v.getD 0 .any) (I .u64 7)) fun t13 =>
 some (.normal [t13,t11],s2))
 (fun v3 s4=>some (.normal [(v3.getD 0 .any),(v3.getD 1 .any)],s4))
 (fun i5 v3 s4=>some (.exit i5 v3,s4))
 (fun r6 s4=>some (.ret r6,s4)))
 (some (.exit 0 [(v.getD 0 .any),(v.getD 1 .any)],s))
def f159 (aa:ak) (N:Nat) (a0:T) (s:St):Option (T×St) :=
 jn (jn (loops (nC aa N) N [a0,(Z .az)] s)
 (fun v7 s8=>some (.normal [.any,.any],s8))
 (fun i9 v7 s8=>if i9=0 then some (.normal v7,s8) else some (.exit i9 v7,s8))
 (fun pH s8=>some (.ret pH,s8)))
 (fun v11 cd=>bd (aF .u8 (v11.getD 0 .any)) fun t16 =>
 ay (aK cd (aR 1 (aE [.int .u8 0] [(0,1,t16)]))) fun t17 gH =>
 ay (aH 1 1 (v11.getD 1 .any) t17 gH) fun t18 gC =>
 some (t18,gC))
 (fun i13 v11 cd=>none)
 (fun xo cd=>some (xo,cd))
theorem KH (aa:ak) (N:Nat) (a0:T) (s:St):aS Tryz.prog aa N Tryz.f159 [a0] s=f159 aa N a0 s:=by kernel_rfl
theorem Gv (d:Nat) (a0:T) (s:St):R (d+1) 159 [a0] s=f159 (R d) 8192 a0 s:=(au rfl Tryz.func159 (by kernel_rfl)).trans (KH ..)
def gW (aa:ak) (N:Nat) (v:List T) (s:St):Option (JO×St) :=
 bd (af .lss (v.getD 3 .any) (I .i64 10)) fun t20 =>
 br t20 (jn (bd (af .add (v.getD 1 .any) (v.getD 3 .any)) fun t24 =>
 bd (aA (v.getD 0 .any)) fun t26 =>
 bd (af .geq t24 t26) fun t27 =>
 br t27 (some (.exit 0 [(v.getD 1 .any)],s))
 (bd (af .add (v.getD 1 .any) (v.getD 3 .any)) fun t31 =>
 bd (av 1 (v.getD 0 .any) t31) fun t32 =>
 bd (ab t32 s.get) fun t33 =>
 bd (af .eql (v.getD 3 .any) (I .i64 9)) fun t35 =>
 bd (gT (gd t35 true) (some t33)) fun t37 =>
 bd (gT (gd t35 true) (af .gtr t37 (I .u8 1))) fun t38 =>
 bd (aC t35 t38 (B false)) fun t39 =>
 br t39 (some (.exit 0 [(v.getD 1 .any)],s))
 (bd (af .and t33 (I .u8 127)) fun t42 =>
 bd (aF .u64 t42) fun t43 =>
 bd (af .mul (I .i64 7) (v.getD 3 .any)) fun t45 =>
 bd (aF .u64 t45) fun t46 =>
 bd (af .shl t43 t46) fun t47 =>
 bd (af .or (v.getD 2 .any) t47) fun t48 =>
 jn (bd (af .geq t33 (I .u8 128)) fun t51 =>
 br t51 (some (.exit 1 [(v.getD 0 .any),(v.getD 1 .any),t48,(v.getD 3 .any)],s))
 (bd (af .gtr (v.getD 3 .any) (I .i64 0)) fun t54 =>
 bd (gT (gd t54 true) (some t33)) fun t56 =>
 bd (gT (gd t54 true) (af .eql t56 (I .u8 0))) fun t57 =>
 bd (aC t54 t57 (B false)) fun t58 =>
 br t58 (some (.exit 0 [(v.getD 1 .any)],s))
 (some (.normal [(v.getD 1 .any),t48,(v.getD 3 .any)],s))))
 (fun v2 s3=>bd (af .add (v2.getD 0 .any) (v2.getD 2 .any)) fun t62 =>
 bd (af .add t62 (I .i64 1)) fun t63 =>
 bd (aQ [(v2.getD 1 .any),t63,(I .i64 0)]) fun r6 =>
 some (.ret r6,s3))
 (fun i4 v2 s3=>if i4=1 then some (.normal v2,s3) else some (.exit i4 v2,s3))
 (fun r5 s3=>some (.ret r5,s3)))))
 (fun v7 s8=>bd (af .add (v7.getD 3 .any) (I .i64 1)) fun t64 =>
 some (.normal [(v7.getD 0 .any),(v7.getD 1 .any),(v7.getD 2 .any),t64],s8))
 (fun i9 v7 s8=>some (.exit i9 v7,s8))
 (fun pH s8=>some (.ret pH,s8)))
 (some (.exit 0 [(v.getD 1 .any)],s))
def f118 (aa:ak) (N:Nat) (a0:T) (a1:T) (s:St):Option (T×St) :=
 bd (af .lss a1 (I .i64 0)) fun t11 =>
 bd (gT (gd t11 false) (some a1)) fun t13 =>
 bd (gT (gd t11 false) (some a0)) fun t14 =>
 bd (gT (gd t11 false) (aA t14)) fun t15 =>
 bd (gT (gd t11 false) (af .gtr t13 t15)) fun t16 =>
 bd (aC t11 (B true) t16) fun t17 =>
 br t17 (bd (aQ [(I .u64 0),a1,(I .i64 1)]) fun r1 =>
 some (r1,s))
 (jn (jn (loops (gW aa N) N [a0,a1,(I .u64 0),(I .i64 0)] s)
 (fun v11 cd=>some (.normal [.any],cd))
 (fun i13 v11 cd=>if i13=0 then some (.normal v11,cd) else some (.exit i13 v11,cd))
 (fun xo cd=>some (.ret xo,cd)))
 (fun ox gC=>bd (aQ [(I .u64 0),(ox.getD 0 .any),(I .i64 2)]) fun xp =>
 some (xp,gC))
 (fun i17 ox gC=>none)
 (fun Er gC=>some (Er,gC)))
theorem Kj (aa:ak) (N:Nat) (a0:T) (a1:T) (s:St):aS Tryz.prog aa N Tryz.f118 [a0,a1] s=f118 aa N a0 a1 s:=by kernel_rfl
theorem Gd (d:Nat) (a0:T) (a1:T) (s:St):R (d+1) 118 [a0,a1] s=f118 (R d) 8192 a0 a1 s:=(au rfl Tryz.func118 (by kernel_rfl)).trans (Kj ..)
def f161 (aa:ak) (N:Nat) (a0:T) (s:St):Option (T×St) :=
 ay (aa 174 [(I .u32 1),a0] s) fun t4 s1 =>
 some (t4,s1)
theorem KM (aa:ak) (N:Nat) (a0:T) (s:St):aS Tryz.prog aa N Tryz.f161 [a0] s=f161 aa N a0 s:=by kernel_rfl
theorem Gx (d:Nat) (a0:T) (s:St):R (d+1) 161 [a0] s=f161 (R d) 8192 a0 s:=(au rfl Tryz.func161 (by kernel_rfl)).trans (KM ..)
def jT (aa:ak) (N:Nat) (v:List T) (s:St):Option (JO×St) :=
 bd (af .lss (v.getD 3 .any) (v.getD 2 .any)) fun t14 =>
 br t14 (jn (bd (av 1 (v.getD 1 .any) (v.getD 3 .any)) fun t15 =>
 bd (ab t15 s.get) fun t16 =>
 bd (af .mul (v.getD 0 .any) (I .u64 257)) fun t18 =>
 bd (aF .u64 t16) fun t20 =>
 bd (af .add t18 t20) fun t21 =>
 bd (af .add t21 (I .u64 1)) fun t22 =>
 bd (af .rem t22 (I .u64 4294967291)) fun t23 =>
 some (.normal [t23,(v.getD 1 .any),(v.getD 2 .any),(v.getD 3 .any)],s))
 (fun v1 s2=>bd (af .add (v1.getD 3 .any) (I .i64 1)) fun t24 =>
 some (.normal [(v1.getD 0 .any),(v1.getD 1 .any),(v1.getD 2 .any),t24],s2))
 (fun i3 v1 s2=>some (.exit i3 v1,s2))
 (fun r4 s2=>some (.ret r4,s2)))
 (some (.exit 0 [(v.getD 0 .any)],s))
def f174 (aa:ak) (N:Nat) (a0:T) (a1:T) (s:St):Option (T×St) :=
 bd (aF .u64 a0) fun t9 =>
 bd (af .rem t9 (I .u64 4294967291)) fun t10 =>
 bd (aA a1) fun t12 =>
 jn (jn (loops (jT aa N) N [t10,a1,t12,(I .i64 0)] s)
 (fun v5 s6=>some (.normal [.any],s6))
 (fun i7 v5 s6=>if i7=0 then some (.normal v5,s6) else some (.exit i7 v5,s6))
 (fun r8 s6=>some (.ret r8,s6)))
 (fun v9 bV=>bd (aF .u32 (v9.getD 0 .any)) fun t26 =>
 some (t26,bV))
 (fun i11 v9 bV=>none)
 (fun Eo bV=>some (Eo,bV))
theorem KR (aa:ak) (N:Nat) (a0:T) (a1:T) (s:St):aS Tryz.prog aa N Tryz.f174 [a0,a1] s=f174 aa N a0 a1 s:=by kernel_rfl
theorem yC (d:Nat) (a0:T) (a1:T) (s:St):R (d+1) 174 [a0,a1] s=f174 (R d) 8192 a0 a1 s:=(au rfl Tryz.func174 (by kernel_rfl)).trans (KR ..)
def nB (aa:ak) (N:Nat) (v:List T) (s:St):Option (JO×St) :=
 bd (af .lss (v.getD 3 .any) (v.getD 2 .any)) fun t14 =>
 br t14 (jn (bd (av 1 (v.getD 0 .any) (v.getD 3 .any)) fun t18 =>
 bd (ab t18 s.get) fun t19 =>
 bd (av 1 (v.getD 1 .any) (v.getD 3 .any)) fun t22 =>
 bd (ab t22 s.get) fun t23 =>
 bd (af .neq t19 t23) fun t24 =>
 br t24 (some (.ret (B false),s))
 (some (.normal [(v.getD 0 .any),(v.getD 1 .any),(v.getD 2 .any),(v.getD 3 .any)],s)))
 (fun v1 s2=>bd (af .add (v1.getD 3 .any) (I .i64 1)) fun t25 =>
 some (.normal [(v1.getD 0 .any),(v1.getD 1 .any),(v1.getD 2 .any),t25],s2))
 (fun i3 v1 s2=>some (.exit i3 v1,s2))
 (fun r4 s2=>some (.ret r4,s2)))
 (some (.exit 0 [],s))
def f130 (aa:ak) (N:Nat) (a0:T) (a1:T) (s:St):Option (T×St) :=
 bd (aA a0) fun t7 =>
 bd (aA a1) fun t9 =>
 bd (af .neq t7 t9) fun t10 =>
 br t10 (some ((B false),s))
 (bd (aA a0) fun t12 =>
 jn (jn (loops (nB aa N) N [a0,a1,t12,(I .i64 0)] s)
 (fun v5 s6=>some (.normal [],s6))
 (fun i7 v5 s6=>if i7=0 then some (.normal v5,s6) else some (.exit i7 v5,s6))
 (fun r8 s6=>some (.ret r8,s6)))
 (fun v9 bV=>some ((B true),bV))
 (fun i11 v9 bV=>none)
 (fun Eo bV=>some (Eo,bV)))
theorem Kq (aa:ak) (N:Nat) (a0:T) (a1:T) (s:St):aS Tryz.prog aa N Tryz.f130 [a0,a1] s=f130 aa N a0 a1 s:=by kernel_rfl
theorem Gj (d:Nat) (a0:T) (a1:T) (s:St):R (d+1) 130 [a0,a1] s=f130 (R d) 8192 a0 a1 s:=(au rfl Tryz.func130 (by kernel_rfl)).trans (Kq ..)
def f122 (aa:ak) (N:Nat) (a0:T) (a1:T) (s:St):Option (T×St) :=
 bd (bX a0 s.get) fun t6 =>
 bd (bX a1 s.get) fun t8 =>
 bd (af .eql t6 t8) fun t9 =>
 some (t9,s)
theorem Km (aa:ak) (N:Nat) (a0:T) (a1:T) (s:St):aS Tryz.prog aa N Tryz.f122 [a0,a1] s=f122 aa N a0 a1 s:=by kernel_rfl
theorem Gg (d:Nat) (a0:T) (a1:T) (s:St):R (d+1) 122 [a0,a1] s=f122 (R d) 8192 a0 a1 s:=(au rfl Tryz.func122 (by kernel_rfl)).trans (Km ..)
def f92 (aa:ak) (N:Nat) (a0:T) (s:St):Option (T×St) :=
 bd (iC .l a0 (Z .az)) fun t4 =>
 br t4 (some ((Z .az),s))
 (ay (aK s (aR 0 (aE [] []))) fun t5 s1 =>
 ay (aH 1 1 t5 a0 s1) fun t7 s2 =>
 some (t7,s2))
theorem Pg (aa:ak) (N:Nat) (a0:T) (s:St):aS Tryz.prog aa N Tryz.f92 [a0] s=f92 aa N a0 s:=by kernel_rfl
theorem LR (d:Nat) (a0:T) (s:St):R (d+1) 92 [a0] s=f92 (R d) 8192 a0 s:=(au rfl Tryz.func92 (by kernel_rfl)).trans (Pg ..)
def f173 (aa:ak) (N:Nat) (a0:T) (s:St):Option (T×St) :=
 bd (aF .u8 a0) fun t4 =>
 bd (af .shr a0 (I .u64 8)) fun t6 =>
 bd (aF .u8 t6) fun t7 =>
 bd (af .shr a0 (I .u64 16)) fun t9 =>
 bd (aF .u8 t9) fun t10 =>
 bd (af .shr a0 (I .u64 24)) fun t12 =>
 bd (aF .u8 t12) fun t13 =>
 ay (aK s (aR 4 (aE [.int .u8 0,.int .u8 0,.int .u8 0,.int .u8 0] [(0,1,t4),(1,1,t7),(2,1,t10),(3,1,t13)]))) fun t14 s1 =>
 some (t14,s1)
theorem KQ (aa:ak) (N:Nat) (a0:T) (s:St):aS Tryz.prog aa N Tryz.f173 [a0] s=f173 aa N a0 s:=by kernel_rfl
theorem GC (d:Nat) (a0:T) (s:St):R (d+1) 173 [a0] s=f173 (R d) 8192 a0 s:=(au rfl Tryz.func173 (by kernel_rfl)).trans (KQ ..)
def qT (aa:ak) (N:Nat) (v:List T) (s:St):Option (JO×St) :=
 bd (af .lss (v.getD 4 .any) (v.getD 3 .any)) fun t12 =>
 br t12 (jn (bd (av 1 (v.getD 2 .any) (v.getD 4 .any)) fun t13 =>
 bd (ab t13 s.get) fun t14 =>
 bd (aA t14) fun t17 =>
 bd (af .add (v.getD 1 .any) t17) fun t18 =>
 bd (af .lss t18 (I .i64 0)) fun t20 =>
 jn (br t20 (bd ((none:Option T)) fun t21 =>
 bd ((none:Option T)) fun u1 =>
 some (.normal [(v.getD 0 .any),t18,(v.getD 2 .any),(v.getD 3 .any),(v.getD 4 .any)],s))
 (some (.normal [(v.getD 0 .any),t18,(v.getD 2 .any),(v.getD 3 .any),(v.getD 4 .any)],s)))
 (fun v2 s3=>some (.normal [(v2.getD 0 .any),(v2.getD 1 .any),(v2.getD 2 .any),(v2.getD 3 .any),(v2.getD 4 .any)],s3))
 (fun i4 v2 s3=>if i4=1 then some (.normal v2,s3) else some (.exit i4 v2,s3))
 (fun r5 s3=>some (.ret r5,s3)))
 (fun v6 s7=>bd (af .add (v6.getD 4 .any) (I .i64 1)) fun t22 =>
 some (.normal [(v6.getD 0 .any),(v6.getD 1 .any),(v6.getD 2 .any),(v6.getD 3 .any),t22],s7))
 (fun i8 v6 s7=>some (.exit i8 v6,s7))
 (fun r9 s7=>some (.ret r9,s7)))
 (some (.exit 0 [(v.getD 0 .any),(v.getD 1 .any)],s))
def qU (aa:ak) (N:Nat) (v:List T) (s:St):Option (JO×St) :=
 bd (af .lss (v.getD 3 .any) (v.getD 2 .any)) fun t28 =>
 br t28 (jn (bd (av 1 (v.getD 1 .any) (v.getD 3 .any)) fun t29 =>
 bd (ab t29 s.get) fun t30 =>
 ay (aH 1 1 (v.getD 0 .any) t30 s) fun t33 lF =>
 some (.normal [t33,(v.getD 1 .any),(v.getD 2 .any),(v.getD 3 .any)],lF))
 (fun v20 kK=>bd (af .add (v20.getD 3 .any) (I .i64 1)) fun t34 =>
 some (.normal [(v20.getD 0 .any),(v20.getD 1 .any),(v20.getD 2 .any),t34],kK))
 (fun i22 v20 kK=>some (.exit i22 v20,kK))
 (fun Ql kK=>some (.ret Ql,kK)))
 (some (.exit 2 [(v.getD 0 .any)],s))
def f172 (aa:ak) (N:Nat) (a0:T) (s:St):Option (T×St) :=
 bd (aA a0) fun t10 =>
 jn (jn (loops (qT aa N) N [a0,(I .i64 0),a0,t10,(I .i64 0)] s)
 (fun v10 bK=>some (.normal [.any,.any],bK))
 (fun i12 v10 bK=>if i12=0 then some (.normal v10,bK) else some (.exit i12 v10,bK))
 (fun qK bK=>some (.ret qK,bK)))
 (fun jh gH=>ay (aa 216 [(Z .az),(jh.getD 1 .any)] gH) fun t24 iM =>
 bd (aA (jh.getD 0 .any)) fun t26 =>
 jn (jn (loops (qU aa N) N [t24,(jh.getD 0 .any),t26,(I .i64 0)] iM)
 (fun v24 kB=>some (.normal [.any],kB))
 (fun i26 v24 kB=>if i26=2 then some (.normal v24,kB) else some (.exit i26 v24,kB))
 (fun To kB=>some (.ret To,kB)))
 (fun v28 m6=>some ((v28.getD 0 .any),m6))
 (fun i30 v28 m6=>none)
 (fun IL m6=>some (IL,m6)))
 (fun i16 jh gH=>none)
 (fun Ep gH=>some (Ep,gH))
theorem KP (aa:ak) (N:Nat) (a0:T) (s:St):aS Tryz.prog aa N Tryz.f172 [a0] s=f172 aa N a0 s:=by kernel_rfl
theorem GA (d:Nat) (a0:T) (s:St):R (d+1) 172 [a0] s=f172 (R d) 8192 a0 s:=(au rfl Tryz.func172 (by kernel_rfl)).trans (KP ..)
def f216 (aa:ak) (N:Nat) (a0:T) (a1:T) (s:St):Option (T×St) :=
 bd (af .lss a1 (I .i64 0)) fun t6 =>
 jn (br t6 (bd ((none:Option T)) fun t7 =>
 bd ((none:Option T)) fun u1 =>
 some (.normal [a0,a1],s))
 (some (.normal [a0,a1],s)))
 (fun v2 s3=>bd (x8 (v2.getD 0 .any)) fun t10 =>
 bd (aA (v2.getD 0 .any)) fun t12 =>
 bd (af .sub t10 t12) fun t13 =>
 bd (af .sub (v2.getD 1 .any) t13) fun t14 =>
 bd (af .gtr t14 (I .i64 0)) fun t16 =>
 jn (br t16 (bd (x8 (v2.getD 0 .any)) fun t19 =>
 bd (ax 1 (v2.getD 0 .any) none (some t19) none) fun t20 =>
 ay (kQ 1 1 [.int .u8 0] t20 t14 s3) fun t22 s6 =>
 bd (aA (v2.getD 0 .any)) fun t24 =>
 bd (ax 1 t22 none (some t24) none) fun t25 =>
 some (.normal [t25],s6))
 (some (.normal [(v2.getD 0 .any)],s3)))
 (fun v7 s8=>some ((v7.getD 0 .any),s8))
 (fun i9 v7 s8=>none)
 (fun pH s8=>some (pH,s8)))
 (fun i4 v2 s3=>none)
 (fun r5 s3=>some (r5,s3))
theorem Lc (aa:ak) (N:Nat) (a0:T) (a1:T) (s:St):aS Tryz.prog aa N Tryz.f216 [a0,a1] s=f216 aa N a0 a1 s:=by kernel_rfl
theorem GR (d:Nat) (a0:T) (a1:T) (s:St):R (d+1) 216 [a0,a1] s=f216 (R d) 8192 a0 a1 s:=(au rfl Tryz.func216 (by kernel_rfl)).trans (Lc ..)
end
noncomputable section
def f193 (aa:ak) (N:Nat) (a0:T) (s:St):Option (T×St) :=
 bd (af .geq a0 (I .i64 1)) fun t4 =>
 bd (gT (gd t4 true) (some a0)) fun t6 =>
 bd (gT (gd t4 true) (af .leq t6 (I .i64 1073741824))) fun t7 =>
 bd (aC t4 t7 (B false)) fun t8 =>
 some (t8,s)
theorem K4 (aa:ak) (N:Nat) (a0:T) (s:St):aS Tryz.prog aa N Tryz.f193 [a0] s=f193 aa N a0 s:=by kernel_rfl
theorem GM (d:Nat) (a0:T) (s:St):R (d+1) 193 [a0] s=f193 (R d) 8192 a0 s:=(au rfl Tryz.func193 (by kernel_rfl)).trans (K4 ..)
def f149 (aa:ak) (N:Nat) (a0:T) (s:St):Option (T×St) :=
 ay (aK s (ct a0)) fun t1 s1 =>
 bd (ae 1 t1) fun t6 =>
 bd (ab t6 s1.get) fun t7 =>
 bd (af .lss t7 (I .i64 0)) fun t8 =>
 bd (gT (gd t8 false) (ae 1 t1)) fun t10 =>
 bd (gT (gd t8 false) (ab t10 s1.get)) fun t11 =>
 bd (gT (gd t8 false) (af .gtr t11 (I .i64 1073741824))) fun t12 =>
 bd (aC t8 (B true) t12) fun t13 =>
 br t13 (some ((B false),s1))
 (bd (ae 0 t1) fun t14 =>
 bd (ab t14 s1.get) fun t15 =>
 jn (bd (af .eql t15 (I .i64 1)) fun t17 =>
 br t17 (bd (ae 7 t1) fun t18 =>
 bd (ab t18 s1.get) fun t19 =>
 bd (af .eql t19 (Z (.str []))) fun t20 =>
 bd (gT (gd t20 true) (ae 2 t1)) fun t22 =>
 bd (gT (gd t20 true) (ab t22 s1.get)) fun t23 =>
 ay (gS (gd t20 true) s1 (aa 193 [t23] s1)) fun t24 s2 =>
 bd (aC t20 t24 (B false)) fun t25 =>
 bd (gT (gd t25 true) (ae 3 t1)) fun t27 =>
 bd (gT (gd t25 true) (ab t27 s2.get)) fun t28 =>
 bd (gT (gd t25 true) (af .geq t28 (I .i64 0))) fun t29 =>
 bd (aC t25 t29 (B false)) fun t30 =>
 bd (gT (gd t30 true) (ae 3 t1)) fun t32 =>
 bd (gT (gd t30 true) (ab t32 s2.get)) fun t33 =>
 bd (gT (gd t30 true) (af .lss t33 (I .i64 4))) fun t34 =>
 bd (aC t30 t34 (B false)) fun t35 =>
 bd (gT (gd t35 true) (ae 4 t1)) fun t37 =>
 bd (gT (gd t35 true) (ab t37 s2.get)) fun t38 =>
 bd (gT (gd t35 true) (af .geq t38 (I .i64 0))) fun t39 =>
 bd (aC t35 t39 (B false)) fun t40 =>
 bd (gT (gd t40 true) (ae 4 t1)) fun t42 =>
 bd (gT (gd t40 true) (ab t42 s2.get)) fun t43 =>
 bd (gT (gd t40 true) (ae 5 t1)) fun t44 =>
 bd (gT (gd t40 true) (ab t44 s2.get)) fun t45 =>
 bd (gT (gd t40 true) (af .lss t43 t45)) fun t46 =>
 bd (aC t40 t46 (B false)) fun t47 =>
 bd (gT (gd t47 true) (ae 5 t1)) fun t49 =>
 bd (gT (gd t47 true) (ab t49 s2.get)) fun t50 =>
 bd (gT (gd t47 true) (af .leq t50 (I .i64 1099511627776))) fun t51 =>
 bd (aC t47 t51 (B false)) fun t52 =>
 some (.ret t52,s2))
 (bd (af .eql t15 (I .i64 2)) fun t54 =>
 br t54 (bd (ae 2 t1) fun t55 =>
 bd (ab t55 s1.get) fun t56 =>
 ay (aa 193 [t56] s1) fun t57 s3 =>
 bd (gT (gd t57 true) (aG 8 t1 s3.get)) fun t59 =>
 bd (gT (gd t57 true) (ae 1 t1)) fun t60 =>
 bd (gT (gd t57 true) (ab t60 s3.get)) fun t61 =>
 bd (gT (gd t57 true) (ae 2 t1)) fun t62 =>
 bd (gT (gd t57 true) (ab t62 s3.get)) fun t63 =>
 bd (gT (gd t57 true) (aU (aE [.int .i64 0,.int .i64 0,.int .i64 0,.int .i64 0,.int .i64 0,.int .i64 0,.int .u32 0,.str []] [(0,1,(I .i64 2)),(1,1,t61),(2,1,t63)]))) fun t64 =>
 bd (gT (gd t57 true) (iC (.a 8 [(0,.i),(1,.i),(2,.i),(3,.i),(4,.i),(5,.i),(6,.i),(7,.s)]) t59 t64)) fun t65 =>
 bd (aC t57 t65 (B false)) fun t66 =>
 some (.ret t66,s3))
 (bd (af .eql t15 (I .i64 3)) fun t68 =>
 br t68 (bd (ae 1 t1) fun t69 =>
 bd (ab t69 s1.get) fun t70 =>
 bd (af .gtr t70 (I .i64 0)) fun t71 =>
 bd (gT (gd t71 true) (aG 8 t1 s1.get)) fun t73 =>
 bd (gT (gd t71 true) (ae 1 t1)) fun t74 =>
 bd (gT (gd t71 true) (ab t74 s1.get)) fun t75 =>
 bd (gT (gd t71 true) (aU (aE [.int .i64 0,.int .i64 0,.int .i64 0,.int .i64 0,.int .i64 0,.int .i64 0,.int .u32 0,.str []] [(0,1,(I .i64 3)),(1,1,t75)]))) fun t76 =>
 bd (gT (gd t71 true) (iC (.a 8 [(0,.i),(1,.i),(2,.i),(3,.i),(4,.i),(5,.i),(6,.i),(7,.s)]) t73 t76)) fun t77 =>
 bd (aC t71 t77 (B false)) fun t78 =>
 some (.ret t78,s1))
 (bd (af .eql t15 (I .i64 4)) fun t80 =>
 br t80 (bd (ae 7 t1) fun t81 =>
 bd (ab t81 s1.get) fun t82 =>
 bd (cj t82) fun t83 =>
 bd (af .gtr t83 (I .i64 300)) fun t84 =>
 bd (gT (gd t84 false) (aG 8 t1 s1.get)) fun t86 =>
 bd (gT (gd t84 false) (ae 1 t1)) fun t87 =>
 bd (gT (gd t84 false) (ab t87 s1.get)) fun t88 =>
 bd (gT (gd t84 false) (ae 7 t1)) fun t89 =>
 bd (gT (gd t84 false) (ab t89 s1.get)) fun t90 =>
 bd (gT (gd t84 false) (aU (aE [.int .i64 0,.int .i64 0,.int .i64 0,.int .i64 0,.int .i64 0,.int .i64 0,.int .u32 0,.str []] [(0,1,(I .i64 4)),(1,1,t88),(7,1,t90)]))) fun t91 =>
 bd (gT (gd t84 false) (Eh (.a 8 [(0,.i),(1,.i),(2,.i),(3,.i),(4,.i),(5,.i),(6,.i),(7,.s)]) t86 t91)) fun t92 =>
 bd (aC t84 (B true) t92) fun t93 =>
 br t93 (some (.ret (B false),s1))
 (bd (ae 7 t1) fun t95 =>
 bd (ab t95 s1.get) fun t96 =>
 ay (aa 137 [t96] s1) fun t97 s4 =>
 bd (ah t97 0) fun t98 =>
 bd (ah t97 1) fun t99 =>
 bd (ah t97 2) fun t100 =>
 ay (aK s4 (ba [.int .i64 0,.int .i64 0,.int .i64 0,.int .i64 0,.int .i64 0,.int .i64 0])) fun t3 s5 =>
 ay (aw 6 t3 t98 s5) fun _ s6 =>
 bd (af .eql t99 (I .i64 0)) fun t102 =>
 some (.ret t102,s6)))
 (some (.normal [],s1))))))
 (fun v7 s8=>some ((B false),s8))
 (fun i9 v7 s8=>none)
 (fun pH s8=>some (pH,s8)))
theorem Kx (aa:ak) (N:Nat) (a0:T) (s:St):aS Tryz.prog aa N Tryz.f149 [a0] s=f149 aa N a0 s:=by kernel_rfl
theorem Gp (d:Nat) (a0:T) (s:St):R (d+1) 149 [a0] s=f149 (R d) 8192 a0 s:=(au rfl Tryz.func149 (by kernel_rfl)).trans (Kx ..)
def gh (aa:ak) (N:Nat) (v:List T) (s:St):Option (JO×St) :=
 bd (af .lss (v.getD 4 .any) (v.getD 3 .any)) fun t56 =>
 br t56 (jn (bd (av 1 (v.getD 2 .any) (v.getD 4 .any)) fun t57 =>
 bd (ab t57 s.get) fun t58 =>
 ay (aa 159 [t58] s) fun t61 mi =>
 ay (aH 1 1 (v.getD 1 .any) t61 mi) fun t62 rz =>
 some (.normal [(v.getD 0 .any),t62,(v.getD 2 .any),(v.getD 3 .any),(v.getD 4 .any)],rz))
 (fun v28 m6=>bd (af .add (v28.getD 4 .any) (I .i64 1)) fun t63 =>
 some (.normal [(v28.getD 0 .any),(v28.getD 1 .any),(v28.getD 2 .any),(v28.getD 3 .any),t63],m6))
 (fun i30 v28 m6=>some (.exit i30 v28,m6))
 (fun IL m6=>some (.ret IL,m6)))
 (some (.exit 1 [(v.getD 0 .any),(v.getD 1 .any)],s))
def f133 (aa:ak) (N:Nat) (a0:T) (s:St):Option (T×St) :=
 ay (aK s (ct a0)) fun t1 s1 =>
 bd (aG 8 t1 s1.get) fun t8 =>
 ay (aa 149 [t8] s1) fun t9 s2 =>
 bd (jO .not t9) fun t10 =>
 br t10 (bd (aQ [(Z .az),(I .i64 1)]) fun r3 =>
 some (r3,s2))
 (bd (ae 0 t1) fun t11 =>
 bd (ab t11 s2.get) fun t12 =>
 bd (aF .u8 t12) fun t13 =>
 ay (aK s2 (aR 1 (aE [.int .u8 0] [(0,1,t13)]))) fun t14 s4 =>
 bd (ae 1 t1) fun t15 =>
 bd (ab t15 s4.get) fun t16 =>
 bd (aF .u64 t16) fun t17 =>
 ay (aa 159 [t17] s4) fun t18 s5 =>
 ay (aH 1 1 t14 t18 s5) fun t19 s6 =>
 ck ((decide (ab t11 (cq 8 s5.get (Bw 3 s2.size (aR 1 (aE [.int .u8 0] [(0,1,t13)])) []))=ab t11 s2.get)&&true)&&true) (bd (ae 0 t1) fun t20 =>
 bd (ab t20 s6.get) fun t21 =>
 jn (bd (af .eql t21 (I .i64 1)) fun t23 =>
 jn (br t23 (bd (ae 2 t1) fun t24 =>
 bd (ab t24 s6.get) fun t25 =>
 bd (aF .u64 t25) fun t26 =>
 bd (ae 3 t1) fun t27 =>
 bd (ab t27 s6.get) fun t28 =>
 bd (aF .u64 t28) fun t29 =>
 bd (ae 4 t1) fun t30 =>
 bd (ab t30 s6.get) fun t31 =>
 bd (aF .u64 t31) fun t32 =>
 bd (ae 5 t1) fun t33 =>
 bd (ab t33 s6.get) fun t34 =>
 bd (aF .u64 t34) fun t35 =>
 bd (ae 6 t1) fun t36 =>
 bd (ab t36 s6.get) fun t37 =>
 bd (aF .u64 t37) fun t38 =>
 ay (aK s6 (aR 5 (aE [.int .u64 0,.int .u64 0,.int .u64 0,.int .u64 0,.int .u64 0] [(0,1,t26),(1,1,t29),(2,1,t32),(3,1,t35),(4,1,t38)]))) fun t39 s7 =>
 some (.normal [t1,t19,t39],s7))
 (bd (af .eql t21 (I .i64 2)) fun t41 =>
 jn (br t41 (bd (ae 2 t1) fun t42 =>
 bd (ab t42 s6.get) fun t43 =>
 bd (aF .u64 t43) fun t44 =>
 ay (aK s6 (aR 1 (aE [.int .u64 0] [(0,1,t44)]))) fun t45 s8 =>
 some (.normal [t1,t19,t45],s8))
 (bd (af .eql t21 (I .i64 4)) fun t47 =>
 jn (br t47 (bd (ae 7 t1) fun t48 =>
 bd (ab t48 s6.get) fun t49 =>
 bd (cj t49) fun t50 =>
 bd (aF .u64 t50) fun t51 =>
 ay (aK s6 (aR 1 (aE [.int .u64 0] [(0,1,t51)]))) fun t52 s9 =>
 some (.normal [t1,t19,t52],s9))
 (some (.normal [t1,t19,(Z .az)],s6)))
 (fun v10 bK=>some (.normal [(v10.getD 0 .any),(v10.getD 1 .any),(v10.getD 2 .any)],bK))
 (fun i12 v10 bK=>some (.exit i12 v10,bK))
 (fun qK bK=>some (.ret qK,bK))))
 (fun jh gH=>some (.normal [(jh.getD 0 .any),(jh.getD 1 .any),(jh.getD 2 .any)],gH))
 (fun i16 jh gH=>some (.exit i16 jh,gH))
 (fun Ep gH=>some (.ret Ep,gH))))
 (fun mL lF=>some (.normal [(mL.getD 0 .any),(mL.getD 1 .any),(mL.getD 2 .any)],lF))
 (fun i20 mL lF=>if i20=0 then some (.normal mL,lF) else some (.exit i20 mL,lF))
 (fun IJ lF=>some (.ret IJ,lF)))
 (fun v22 mI=>bd (aA (v22.getD 2 .any)) fun t54 =>
 jn (jn (loops (gh aa N) N [(v22.getD 0 .any),(v22.getD 1 .any),(v22.getD 2 .any),t54,(I .i64 0)] mI)
 (fun v32 rA=>some (.normal [.any,.any],rA))
 (fun i34 v32 rA=>if i34=1 then some (.normal v32,rA) else some (.exit i34 v32,rA))
 (fun Xq rA=>some (.ret Xq,rA)))
 (fun v36 JI=>bd (ae 7 (v36.getD 0 .any)) fun t65 =>
 bd (ab t65 JI.get) fun t66 =>
 ay (aH 1 1 (v36.getD 1 .any) t66 JI) fun t67 Ad =>
 bd (aQ [t67,(I .i64 0)]) fun Tq =>
 some (Tq,Ad))
 (fun i38 v36 JI=>none)
 (fun Xs JI=>some (Xs,JI)))
 (fun i24 v22 mI=>none)
 (fun Nb mI=>some (Nb,mI))))
theorem Kt (aa:ak) (N:Nat) (a0:T) (s:St):aS Tryz.prog aa N Tryz.f133 [a0] s=f133 aa N a0 s:=by kernel_rfl
theorem yA (d:Nat) (a0:T) (s:St):R (d+1) 133 [a0] s=f133 (R d) 8192 a0 s:=(au rfl Tryz.func133 (by kernel_rfl)).trans (Kt ..)
def f94 (aa:ak) (N:Nat) (a0:T) (s:St):Option (T×St) :=
 ay (aK s (ct a0)) fun t1 s1 =>
 ay (aK s1 (ba [.int .i64 0,.int .i64 0,.int .i64 0,.int .i64 0,.int .i64 0,.int .i64 0,.int .u32 0,.str []])) fun t2 s2 =>
 bd (ab t1 s2.get) fun t11 =>
 bd (aA t11) fun t12 =>
 bd (af .eql t12 (I .i64 0)) fun t13 =>
 br t13 (bd (aU (aE [.int .i64 0,.int .i64 0,.int .i64 0,.int .i64 0,.int .i64 0,.int .i64 0,.int .u32 0,.str []] [])) fun t14 =>
 ay (aw 8 t2 t14 s2) fun _ s3 =>
 bd (rC (aG 8 t2 s3.get) (rT (I .i64 2) (some []))) fun l4=>bd (aQ l4) fun r5 =>
 some (r5,s3))
 (ay (aK s2 (ba [.int .i64 0])) fun t4 s6 =>
 ay (aK s6 (ba [.bool false])) fun t5 s7 =>
 ay (aw 1 t4 (I .i64 1) s7) fun _ s8 =>
 ay (aw 1 t5 (B false) s8) fun _ s9 =>
 bd (rN 132 [t1,t4,t5] []) fun t15 =>
 bd (ab t1 s9.get) fun t16 =>
 bd (av 1 t16 (I .i64 0)) fun t17 =>
 bd (ab t17 s9.get) fun t18 =>
 bd (aF .i64 t18) fun t19 =>
 ay (dyn Tryz.prog aa t15 [(I .u64 1073741824)] s9) fun t21 bV =>
 bd (aU (aE [.int .i64 0,.int .i64 0,.int .i64 0,.int .i64 0,.int .i64 0,.int .i64 0,.int .u32 0,.str []] [(0,1,t19),(1,1,t21)])) fun t22 =>
 ay (aK bV (ba [.int .i64 0,.int .i64 0,.int .i64 0,.int .i64 0,.int .i64 0,.int .i64 0,.int .u32 0,.str []])) fun t7 bK =>
 ay (aw 8 t7 t22 bK) fun _ cd =>
 ck ((decide (ab t1 (qM (bV.get) bV.size (.cells true [.int .i64 0,.int .i64 0,.int .i64 0,.int .i64 0,.int .i64 0,.int .i64 0,.int .u32 0,.str []]))=ab t1 s9.get)&&true)&&((decide (ab t17 (qM (bV.get) bV.size (.cells true [.int .i64 0,.int .i64 0,.int .i64 0,.int .i64 0,.int .i64 0,.int .i64 0,.int .u32 0,.str []]))=ab t17 s9.get)&&true)&&true)) (bd (ae 0 t7) fun t23 =>
 bd (ab t23 cd.get) fun t24 =>
 jn (bd (af .eql t24 (I .i64 1)) fun t26 =>
 jn (br t26 (ay (dyn Tryz.prog aa t15 [(I .u64 1073741824)] cd) fun t28 ey =>
 ay (dyn Tryz.prog aa t15 [(I .u64 4)] ey) fun t30 gB =>
 bd (ae 2 t7) fun t31 =>
 ay (aw 1 t31 t28 gB) fun _ gH =>
 bd (ae 3 t7) fun t32 =>
 ay (aw 1 t32 t30 gH) fun _ gC =>
 ay (dyn Tryz.prog aa t15 [(I .u64 1099511627776)] gC) fun t34 jd =>
 ay (dyn Tryz.prog aa t15 [(I .u64 1099511627776)] jd) fun t36 iM =>
 bd (ae 4 t7) fun t37 =>
 ay (aw 1 t37 t34 iM) fun _ lF =>
 bd (ae 5 t7) fun t38 =>
 ay (aw 1 t38 t36 lF) fun _ oF =>
 ay (dyn Tryz.prog aa t15 [(I .u64 4294967295)] oF) fun t40 kK =>
 bd (aF .u32 t40) fun t41 =>
 bd (ae 6 t7) fun t42 =>
 ay (aw 1 t42 t41 kK) fun _ iO =>
 some (.normal [t1,t2,t5,t7],iO))
 (bd (af .eql t24 (I .i64 2)) fun t44 =>
 jn (br t44 (ay (dyn Tryz.prog aa t15 [(I .u64 1073741824)] cd) fun t46 mI =>
 bd (ae 2 t7) fun t47 =>
 ay (aw 1 t47 t46 mI) fun _ I8 =>
 some (.normal [t1,t2,t5,t7],I8))
 (bd (af .eql t24 (I .i64 4)) fun t49 =>
 jn (br t49 (ay (dyn Tryz.prog aa t15 [(I .u64 300)] cd) fun t51 kB =>
 bd (ab t5 kB.get) fun t52 =>
 bd (gT (gd t52 false) (some t51)) fun t54 =>
 bd (gT (gd t52 false) (ab t1 kB.get)) fun t55 =>
 bd (gT (gd t52 false) (aA t55)) fun t56 =>
 bd (gT (gd t52 false) (ab t4 kB.get)) fun t57 =>
 bd (gT (gd t52 false) (af .sub t56 t57)) fun t58 =>
 bd (gT (gd t52 false) (af .gtr t54 t58)) fun t59 =>
 bd (aC t52 (B true) t59) fun t60 =>
 br t60 (bd (aU (aE [.int .i64 0,.int .i64 0,.int .i64 0,.int .i64 0,.int .i64 0,.int .i64 0,.int .u32 0,.str []] [])) fun t61 =>
 ay (aw 8 t2 t61 kB) fun _ mi =>
 bd (rC (aG 8 t2 mi.get) (rT (I .i64 2) (some []))) fun l27=>bd (aQ l27) fun Nc =>
 some (.ret Nc,mi))
 (bd (ab t1 kB.get) fun t62 =>
 bd (ab t4 kB.get) fun t63 =>
 bd (ab t4 kB.get) fun t64 =>
 bd (af .add t64 t51) fun t66 =>
 bd (ax 1 t62 (some t63) (some t66) none) fun t67 =>
 bd (bX t67 kB.get) fun t68 =>
 bd (ae 7 t7) fun t69 =>
 ay (aw 1 t69 t68 kB) fun _ m6 =>
 some (.normal [t1,t2,t5,t7],m6)))
 (some (.normal [t1,t2,t5,t7],cd)))
 (fun v30 xU=>some (.normal [(v30.getD 0 .any),(v30.getD 1 .any),(v30.getD 2 .any),(v30.getD 3 .any)],xU))
 (fun i32 v30 xU=>some (.exit i32 v30,xU))
 (fun Xp xU=>some (.ret Xp,xU))))
 (fun B4 CX=>some (.normal [(B4.getD 0 .any),(B4.getD 1 .any),(B4.getD 2 .any),(B4.getD 3 .any)],CX))
 (fun i36 B4 CX=>some (.exit i36 B4,CX))
 (fun Tp CX=>some (.ret Tp,CX))))
 (fun Jq Ew=>some (.normal [(Jq.getD 0 .any),(Jq.getD 1 .any),(Jq.getD 2 .any),(Jq.getD 3 .any)],Ew))
 (fun i40 Jq Ew=>if i40=0 then some (.normal Jq,Ew) else some (.exit i40 Jq,Ew))
 (fun Tq Ew=>some (.ret Tq,Ew)))
 (fun qB zC=>bd (aG 8 (qB.getD 3 .any) zC.get) fun t71 =>
 ay (aa 133 [t71] zC) fun t72 Ae =>
 bd (ah t72 0) fun t73 =>
 bd (ah t72 1) fun t74 =>
 bd (ab (qB.getD 2 .any) Ae.get) fun t75 =>
 bd (gT (gd t75 false) (some t74)) fun t77 =>
 bd (gT (gd t75 false) (af .neq t77 (I .i64 0))) fun t78 =>
 bd (aC t75 (B true) t78) fun t79 =>
 bd (gT (gd t79 false) (some t73)) fun t81 =>
 bd (gT (gd t79 false) (ab (qB.getD 0 .any) Ae.get)) fun t82 =>
 ay (gS (gd t79 false) Ae (aa 122 [t81,t82] Ae)) fun t83 E4 =>
 bd (gT (gd t79 false) (jO .not t83)) fun t84 =>
 bd (aC t79 (B true) t84) fun t85 =>
 br t85 (bd (aU (aE [.int .i64 0,.int .i64 0,.int .i64 0,.int .i64 0,.int .i64 0,.int .i64 0,.int .u32 0,.str []] [])) fun t86 =>
 ay (aw 8 (qB.getD 1 .any) t86 E4) fun _ E5 =>
 bd (rC (aG 8 (qB.getD 1 .any) E5.get) (rT (I .i64 2) (some []))) fun WS=>bd (aQ WS) fun Ts =>
 some (Ts,E5))
 (bd (aG 8 (qB.getD 3 .any) E4.get) fun t87 =>
 ay (aw 8 (qB.getD 1 .any) t87 E4) fun _ Qp =>
 bd (rC (aG 8 (qB.getD 1 .any) Qp.get) (rT (I .i64 0) (some []))) fun WT=>bd (aQ WT) fun Xx =>
 some (Xx,Qp)))
 (fun i44 qB zC=>none)
 (fun Xv zC=>some (Xv,zC))))
theorem Pj (aa:ak) (N:Nat) (a0:T) (s:St):aS Tryz.prog aa N Tryz.f94 [a0] s=f94 aa N a0 s:=by kernel_rfl
theorem LU (d:Nat) (a0:T) (s:St):R (d+1) 94 [a0] s=f94 (R d) 8192 a0 s:=(au rfl Tryz.func94 (by kernel_rfl)).trans (Pj ..)
def f132 (aa:ak) (N:Nat) (a0:T) (a1:T) (a2:T) (a3:T) (s:St):Option (T×St) :=
 bd (ab a1 s.get) fun t10 =>
 bd (ab a2 s.get) fun t11 =>
 ay (aa 118 [t10,t11] s) fun t12 s1 =>
 bd (ah t12 0) fun t13 =>
 bd (ah t12 1) fun t14 =>
 bd (ah t12 2) fun t15 =>
 bd (ab a3 s1.get) fun t16 =>
 bd (gT (gd t16 false) (some t15)) fun t18 =>
 bd (gT (gd t16 false) (af .neq t18 (I .i64 0))) fun t19 =>
 bd (aC t16 (B true) t19) fun t20 =>
 bd (gT (gd t20 false) (some t13)) fun t22 =>
 bd (gT (gd t20 false) (some a0)) fun t23 =>
 bd (gT (gd t20 false) (af .gtr t22 t23)) fun t24 =>
 bd (aC t20 (B true) t24) fun t25 =>
 ay (aw 1 a3 t25 s1) fun _ s2 =>
 ay (aw 1 a2 t14 s2) fun _ s3 =>
 bd (ki ni t13 [a0]) fun t29 =>
 bd (aF .i64 t29) fun t30 =>
 some (t30,s3)
theorem Ks (aa:ak) (N:Nat) (a0:T) (a1:T) (a2:T) (a3:T) (s:St):aS Tryz.prog aa N Tryz.f132 [a0,a1,a2,a3] s=f132 aa N a0 a1 a2 a3 s:=by kernel_rfl
theorem Gl (d:Nat) (a0:T) (a1:T) (a2:T) (a3:T) (s:St):R (d+1) 132 [a0,a1,a2,a3] s=f132 (R d) 8192 a0 a1 a2 a3 s:=(au rfl Tryz.func132 (by kernel_rfl)).trans (Ks ..)
def nA (aa:ak) (N:Nat) (v:List T) (s:St):Option (JO×St) :=
 bd (af .lss (v.getD 4 .any) (v.getD 3 .any)) fun t14 =>
 br t14 (jn (bd (av 8 (v.getD 2 .any) (v.getD 4 .any)) fun t15 =>
 bd (aG 8 t15 s.get) fun t16 =>
 ay (aK s (ba [.int .i64 0,.int .i64 0,.int .i64 0,.int .i64 0,.int .i64 0,.int .i64 0,.int .u32 0,.str []])) fun t8 s3 =>
 ay (aw 8 t8 t16 s3) fun _ s4 =>
 bd (aG 8 t8 s4.get) fun t18 =>
 ay (aa 96 [(v.getD 1 .any),t18] s4) fun t19 s5 =>
 bd (af .neq t19 (I .i64 0)) fun t21 =>
 br t21 (bd (aU (aE [.int .i64 0,.int .i64 0,.int .i64 0,.int .i64 0,.int .i64 0,.int .i64 0] [])) fun t22 =>
 ay (aw 6 (v.getD 0 .any) t22 s5) fun _ s6 =>
 bd (rT (Z .az) (rC (aG 6 (v.getD 0 .any) s6.get) (rT (I .i64 0) (rT t19 (some []))))) fun l7=>bd (aQ l7) fun r8 =>
 some (.ret r8,s6))
 (some (.normal [(v.getD 0 .any),(v.getD 1 .any),(v.getD 2 .any),(v.getD 3 .any),(v.getD 4 .any)],s5)))
 (fun v9 bV=>bd (af .add (v9.getD 4 .any) (I .i64 1)) fun t24 =>
 some (.normal [(v9.getD 0 .any),(v9.getD 1 .any),(v9.getD 2 .any),(v9.getD 3 .any),t24],bV))
 (fun i11 v9 bV=>some (.exit i11 v9,bV))
 (fun Eo bV=>some (.ret Eo,bV)))
 (some (.exit 0 [(v.getD 0 .any),(v.getD 1 .any)],s))
def f126 (aa:ak) (N:Nat) (a0:T) (s:St):Option (T×St) :=
 ay (aK s (ba [.int .i64 0,.int .i64 0,.int .i64 0,.int .i64 0,.int .i64 0,.int .i64 0])) fun t3 s1 =>
 ay (aa 41 [] s1) fun t10 s2 =>
 bd (aA a0) fun t12 =>
 jn (jn (loops (nA aa N) N [t3,t10,a0,t12,(I .i64 0)] s2)
 (fun kI gB=>some (.normal [.any,.any],gB))
 (fun i15 kI gB=>if i15=0 then some (.normal kI,gB) else some (.exit i15 kI,gB))
 (fun r16 gB=>some (.ret r16,gB)))
 (fun js iM=>ay (aa 48 [(js.getD 1 .any)] iM) fun t26 kK =>
 bd (bu (js.getD 1 .any)) fun t28 =>
 bd (ae 2 t28) fun t29 =>
 bd (aG 6 t29 kK.get) fun t30 =>
 bd (bu (js.getD 1 .any)) fun t32 =>
 bd (ae 8 t32) fun t33 =>
 bd (ab t33 kK.get) fun t34 =>
 ay (aw 6 (js.getD 0 .any) t30 kK) fun _ iO =>
 ck ((decide (aG 6 t29 iM.get=aG 6 t29 kK.get)&&true)&&((decide (ab t33 iM.get=ab t33 kK.get)&&(decide (ab t33 iO.get=ab t33 kK.get)&&true))&&true)) (bd (rT t26 (rC (aG 6 (js.getD 0 .any) iO.get) (rT t34 (rT (I .i64 0) (some []))))) fun l23=>bd (aQ l23) fun IK =>
 some (IK,iO)))
 (fun i19 js iM=>none)
 (fun BF iM=>some (BF,iM))
theorem Kn (aa:ak) (N:Nat) (a0:T) (s:St):aS Tryz.prog aa N Tryz.f126 [a0] s=f126 aa N a0 s:=by kernel_rfl
theorem Gh (d:Nat) (a0:T) (s:St):R (d+1) 126 [a0] s=f126 (R d) 8192 a0 s:=(au rfl Tryz.func126 (by kernel_rfl)).trans (Kn ..)
def f41 (aa:ak) (N:Nat) (s:St):Option (T×St) :=
 ay (aK s (MJ)) fun t1 s1 =>
 ay (aa 91 [] s1) fun t2 s2 =>
 bd (aU (aE [.az,.mz,.int .i64 0,.int .i64 0,.int .i64 0,.int .i64 0,.int .i64 0,.int .i64 0,.int .i64 0,.int .i64 0] [(1,1,t1),(2,6,t2)])) fun t3 =>
 ay (aK s2 (ct t3)) fun t4 s3 =>
 some (t4,s3)
theorem OL (aa:ak) (N:Nat) (s:St):aS Tryz.prog aa N Tryz.f41 [] s=f41 aa N s:=by kernel_rfl
theorem Lq (d:Nat) (s:St):R (d+1) 41 [] s=f41 (R d) 8192 s:=(au rfl Tryz.func41 (by kernel_rfl)).trans (OL ..)
def f134 (aa:ak) (N:Nat) (a0:T) (a1:T) (s:St):Option (T×St) :=
 bd (bu a0) fun t7 =>
 bd (ae 0 t7) fun t8 =>
 bd (ab t8 s.get) fun t9 =>
 ay (aa 175 [t9,a1,(Z (.iP 176 []))] s) fun t11 s1 =>
 bd (ah t11 0) fun t12 =>
 bd (ah t11 1) fun t13 =>
 bd (aQ [t12,t13]) fun r2 =>
 some (r2,s1)
theorem Ku (aa:ak) (N:Nat) (a0:T) (a1:T) (s:St):aS Tryz.prog aa N Tryz.f134 [a0,a1] s=f134 aa N a0 a1 s:=by kernel_rfl
theorem Gm (d:Nat) (a0:T) (a1:T) (s:St):R (d+1) 134 [a0,a1] s=f134 (R d) 8192 a0 a1 s:=(au rfl Tryz.func134 (by kernel_rfl)).trans (Ku ..)
def f110 (aa:ak) (N:Nat) (a0:T) (a1:T) (s:St):Option (T×St) :=
 ay (aK s (ct a1)) fun t3 s1 =>
 bd (ae 2 t3) fun t9 =>
 bd (ab t9 s1.get) fun t10 =>
 ay (aa 134 [a0,t10] s1) fun t11 s2 =>
 bd (ah t11 0) fun t12 =>
 bd (ah t11 1) fun t13 =>
 jn (bd (aG 8 t3 s2.get) fun t15 =>
 ay (aa 149 [t15] s2) fun t16 s3 =>
 bd (jO .not t16) fun t17 =>
 br t17 (some (.ret (I .i64 1),s3))
 (bd (ae 0 t3) fun t19 =>
 bd (ab t19 s3.get) fun t20 =>
 bd (af .eql t20 (I .i64 1)) fun t21 =>
 bd (gT (gd t21 true) (some a0)) fun t23 =>
 bd (gT (gd t21 true) (bu t23)) fun t24 =>
 bd (gT (gd t21 true) (ae 1 t24)) fun t25 =>
 bd (gT (gd t21 true) (ab t25 s3.get)) fun t26 =>
 bd (gT (gd t21 true) (ae 2 t3)) fun t27 =>
 bd (gT (gd t21 true) (ab t27 s3.get)) fun t28 =>
 bd (gT (gd t21 true) (Go.Abs.F.look .i false (.s (.bool false)) t26 t28 s3.get)) fun t29 =>
 bd (aC t21 t29 (B false)) fun t30 =>
 br t30 (some (.ret (I .i64 7),s3))
 (bd (ae 0 t3) fun t32 =>
 bd (ab t32 s3.get) fun t33 =>
 bd (af .eql t33 (I .i64 2)) fun t34 =>
 bd (gT (gd t34 true) (some t13)) fun t36 =>
 bd (gT (gd t34 true) (jO .not t36)) fun t37 =>
 bd (aC t34 t37 (B false)) fun t38 =>
 br t38 (some (.ret (I .i64 9),s3))
 (bd (ae 1 t3) fun t40 =>
 bd (ab t40 s3.get) fun t41 =>
 bd (bu a0) fun t43 =>
 bd (ae 9 t43) fun t44 =>
 bd (ab t44 s3.get) fun t45 =>
 bd (af .lss t41 t45) fun t46 =>
 br t46 (some (.ret (I .i64 12),s3))
 (some (.normal [],s3))))))
 (fun v4 s5=>some ((I .i64 0),s5))
 (fun i6 v4 s5=>none)
 (fun r7 s5=>some (r7,s5))
theorem Kf (aa:ak) (N:Nat) (a0:T) (a1:T) (s:St):aS Tryz.prog aa N Tryz.f110 [a0,a1] s=f110 aa N a0 a1 s:=by kernel_rfl
theorem F8 (d:Nat) (a0:T) (a1:T) (s:St):R (d+1) 110 [a0,a1] s=f110 (R d) 8192 a0 a1 s:=(au rfl Tryz.func110 (by kernel_rfl)).trans (Kf ..)
def f96 (aa:ak) (N:Nat) (a0:T) (a1:T) (s:St):Option (T×St) :=
 ay (aK s (ct a1)) fun t3 s1 =>
 bd (aG 8 t3 s1.get) fun t9 =>
 ay (aa 110 [a0,t9] s1) fun t10 s2 =>
 bd (af .neq t10 (I .i64 0)) fun t12 =>
 br t12 (some (t10,s2))
 (bd (ae 2 t3) fun t16 =>
 bd (ab t16 s2.get) fun t17 =>
 ay (aa 134 [a0,t17] s2) fun t18 s3 =>
 bd (ah t18 0) fun t19 =>
 bd (ah t18 1) fun t20 =>
 bd (ae 0 t3) fun t21 =>
 bd (ab t21 s3.get) fun t22 =>
 jn (bd (af .eql t22 (I .i64 1)) fun t24 =>
 jn (br t24 (bd (bu a0) fun t26 =>
 bd (ae 1 t26) fun t27 =>
 bd (ab t27 s3.get) fun t28 =>
 bd (ae 2 t3) fun t29 =>
 bd (ab t29 s3.get) fun t30 =>
 ay (Ee .i t28 t30 (B true) s3) fun _ s4 =>
 bd (bu a0) fun t33 =>
 bd (ae 0 t33) fun t34 =>
 bd (ab t34 s4.get) fun t35 =>
 bd (ae 2 t3) fun t37 =>
 bd (ab t37 s4.get) fun t38 =>
 bd (ae 3 t3) fun t39 =>
 bd (ab t39 s4.get) fun t40 =>
 bd (ae 4 t3) fun t41 =>
 bd (ab t41 s4.get) fun t42 =>
 bd (ae 5 t3) fun t43 =>
 bd (ab t43 s4.get) fun t44 =>
 bd (ae 6 t3) fun t45 =>
 bd (ab t45 s4.get) fun t46 =>
 bd (aU (aE [.int .i64 0,.int .i64 0,.int .i64 0,.int .i64 0,.int .u32 0] [(0,1,t38),(1,1,t40),(2,1,t42),(3,1,t44),(4,1,t46)])) fun t47 =>
 ay (aK s4 (aR 1 (aE [.int .i64 0,.int .i64 0,.int .i64 0,.int .i64 0,.int .u32 0] [(0,5,t47)]))) fun t48 s5 =>
 ay (aa 135 [t35,t19,t48] s5) fun t49 s6 =>
 bd (bu a0) fun t50 =>
 bd (ae 0 t50) fun t51 =>
 ay (aw 1 t51 t49 s6) fun _ s7 =>
 some (.normal [a0,t3],s7))
 (bd (af .eql t22 (I .i64 2)) fun t53 =>
 jn (br t53 (bd (bu a0) fun t56 =>
 bd (ae 0 t56) fun t57 =>
 bd (ab t57 s3.get) fun t58 =>
 bd (af .add t19 (I .i64 1)) fun t61 =>
 ay (aa 136 [t58,t19,t61] s3) fun t62 s8 =>
 bd (bu a0) fun t63 =>
 bd (ae 0 t63) fun t64 =>
 ay (aw 1 t64 t62 s8) fun _ s9 =>
 some (.normal [a0,t3],s9))
 (bd (af .eql t22 (I .i64 3)) fun t66 =>
 jn (br t66 (bd (ae 1 t3) fun t68 =>
 bd (ab t68 s3.get) fun t69 =>
 bd (bu a0) fun t70 =>
 bd (ae 8 t70) fun t71 =>
 ay (aw 1 t71 t69 s3) fun _ bV =>
 some (.normal [a0,t3],bV))
 (bd (af .eql t22 (I .i64 4)) fun t73 =>
 jn (br t73 (bd (ae 7 t3) fun t76 =>
 bd (ab t76 s3.get) fun t77 =>
 ay (aa 137 [t77] s3) fun t78 bK =>
 bd (ah t78 0) fun t79 =>
 bd (ah t78 1) fun t80 =>
 bd (ah t78 2) fun t81 =>
 bd (bu a0) fun t82 =>
 bd (ae 2 t82) fun t83 =>
 ay (aw 6 t83 t79 bK) fun _ cd =>
 some (.normal [a0,t3],cd))
 (some (.normal [a0,t3],s3)))
 (fun kI gB=>some (.normal [(kI.getD 0 .any),(kI.getD 1 .any)],gB))
 (fun i15 kI gB=>some (.exit i15 kI,gB))
 (fun r16 gB=>some (.ret r16,gB))))
 (fun js iM=>some (.normal [(js.getD 0 .any),(js.getD 1 .any)],iM))
 (fun i19 js iM=>some (.exit i19 js,iM))
 (fun BF iM=>some (.ret BF,iM))))
 (fun v21 iO=>some (.normal [(v21.getD 0 .any),(v21.getD 1 .any)],iO))
 (fun i23 v21 iO=>some (.exit i23 v21,iO))
 (fun IK iO=>some (.ret IK,iO))))
 (fun v25 mi=>some (.normal [(v25.getD 0 .any),(v25.getD 1 .any)],mi))
 (fun i27 v25 mi=>if i27=0 then some (.normal v25,mi) else some (.exit i27 v25,mi))
 (fun Nc mi=>some (.ret Nc,mi)))
 (fun v29 qu=>bd (ae 1 (v29.getD 1 .any)) fun t85 =>
 bd (ab t85 qu.get) fun t86 =>
 bd (bu (v29.getD 0 .any)) fun t87 =>
 bd (ae 9 t87) fun t88 =>
 ay (aw 1 t88 t86 qu) fun _ rA =>
 some ((I .i64 0),rA))
 (fun i31 v29 qu=>none)
 (fun r32 qu=>some (r32,qu)))
theorem Pm (aa:ak) (N:Nat) (a0:T) (a1:T) (s:St):aS Tryz.prog aa N Tryz.f96 [a0,a1] s=f96 aa N a0 a1 s:=by kernel_rfl
theorem LW (d:Nat) (a0:T) (a1:T) (s:St):R (d+1) 96 [a0,a1] s=f96 (R d) 8192 a0 a1 s:=(au rfl Tryz.func96 (by kernel_rfl)).trans (Pm ..)
def f48 (aa:ak) (N:Nat) (a0:T) (s:St):Option (T×St) :=
 bd (bu a0) fun t4 =>
 bd (ae 0 t4) fun t5 =>
 bd (ab t5 s.get) fun t6 =>
 ay (aa 97 [t6] s) fun t7 s1 =>
 some (t7,s1)
theorem OS (aa:ak) (N:Nat) (a0:T) (s:St):aS Tryz.prog aa N Tryz.f48 [a0] s=f48 aa N a0 s:=by kernel_rfl
theorem Lu (d:Nat) (a0:T) (s:St):R (d+1) 48 [a0] s=f48 (R d) 8192 a0 s:=(au rfl Tryz.func48 (by kernel_rfl)).trans (OS ..)
def f176 (aa:ak) (N:Nat) (a0:T) (a1:T) (s:St):Option (T×St) :=
 ay (aK s (ct a0)) fun t2 s1 =>
 bd (ae 0 t2) fun t5 =>
 bd (ab t5 s1.get) fun t6 =>
 bd (af .sub t6 a1) fun t8 =>
 some (t8,s1)
theorem KU (aa:ak) (N:Nat) (a0:T) (a1:T) (s:St):aS Tryz.prog aa N Tryz.f176 [a0,a1] s=f176 aa N a0 a1 s:=by kernel_rfl
theorem GF (d:Nat) (a0:T) (a1:T) (s:St):R (d+1) 176 [a0,a1] s=f176 (R d) 8192 a0 a1 s:=(au rfl Tryz.func176 (by kernel_rfl)).trans (KU ..)
end
noncomputable section
def f97 (aa:ak) (N:Nat) (a0:T) (s:St):Option (T×St) :=
 bd (iC .l a0 (Z .az)) fun t4 =>
 br t4 (some ((Z .az),s))
 (ay (aK s (aR 0 (aE [] []))) fun t5 s1 =>
 ay (aH 5 40 t5 a0 s1) fun t7 s2 =>
 some (t7,s2))
theorem Pn (aa:ak) (N:Nat) (a0:T) (s:St):aS Tryz.prog aa N Tryz.f97 [a0] s=f97 aa N a0 s:=by kernel_rfl
theorem LX (d:Nat) (a0:T) (s:St):R (d+1) 97 [a0] s=f97 (R d) 8192 a0 s:=(au rfl Tryz.func97 (by kernel_rfl)).trans (Pn ..)
def nF (aa:ak) (N:Nat) (v:List T) (s:St):Option (JO×St) :=
 bd (af .lss (v.getD 4 .any) (v.getD 5 .any)) fun t17 =>
 br t17 (jn (bd (af .add (v.getD 4 .any) (v.getD 5 .any)) fun t20 =>
 bd (aF .u64 t20) fun t21 =>
 bd (af .shr t21 (I .u64 1)) fun t22 =>
 bd (aF .i64 t22) fun t23 =>
 bd (av 5 (v.getD 0 .any) t23) fun t27 =>
 bd (aG 5 t27 s.get) fun t28 =>
 ay (dyn Tryz.prog aa (v.getD 2 .any) [t28,(v.getD 1 .any)] s) fun t30 s1 =>
 bd (af .lss t30 (I .i64 0)) fun t31 =>
 jn (br t31 (bd (af .add t23 (I .i64 1)) fun t33 =>
 some (.normal [(v.getD 0 .any),(v.getD 1 .any),(v.getD 2 .any),(v.getD 3 .any),t33,(v.getD 5 .any)],s1))
 (some (.normal [(v.getD 0 .any),(v.getD 1 .any),(v.getD 2 .any),(v.getD 3 .any),(v.getD 4 .any),t23],s1)))
 (fun v2 s3=>some (.normal [(v2.getD 0 .any),(v2.getD 1 .any),(v2.getD 2 .any),(v2.getD 3 .any),(v2.getD 4 .any),(v2.getD 5 .any)],s3))
 (fun i4 v2 s3=>if i4=1 then some (.normal v2,s3) else some (.exit i4 v2,s3))
 (fun r5 s3=>some (.ret r5,s3)))
 (fun v6 s7=>some (.normal [(v6.getD 0 .any),(v6.getD 1 .any),(v6.getD 2 .any),(v6.getD 3 .any),(v6.getD 4 .any),(v6.getD 5 .any)],s7))
 (fun i8 v6 s7=>some (.exit i8 v6,s7))
 (fun r9 s7=>some (.ret r9,s7)))
 (some (.exit 0 [(v.getD 0 .any),(v.getD 1 .any),(v.getD 2 .any),(v.getD 3 .any),(v.getD 4 .any)],s))
def f175 (aa:ak) (N:Nat) (a0:T) (a1:T) (a2:T) (s:St):Option (T×St) :=
 bd (aA a0) fun t13 =>
 jn (jn (loops (nF aa N) N [a0,a1,a2,t13,(I .i64 0),t13] s)
 (fun v10 bK=>some (.normal [.any,.any,.any,.any,.any],bK))
 (fun i12 v10 bK=>if i12=0 then some (.normal v10,bK) else some (.exit i12 v10,bK))
 (fun qK bK=>some (.ret qK,bK)))
 (fun jh gH=>bd (af .lss (jh.getD 4 .any) (jh.getD 3 .any)) fun t38 =>
 bd (gT (gd t38 true) (some (jh.getD 2 .any))) fun t40 =>
 bd (gT (gd t38 true) (some (jh.getD 0 .any))) fun t41 =>
 bd (gT (gd t38 true) (some (jh.getD 4 .any))) fun t42 =>
 bd (gT (gd t38 true) (av 5 t41 t42)) fun t43 =>
 bd (gT (gd t38 true) (aG 5 t43 gH.get)) fun t44 =>
 bd (gT (gd t38 true) (some (jh.getD 1 .any))) fun t45 =>
 ay (gS (gd t38 true) gH (dyn Tryz.prog aa t40 [t44,t45] gH)) fun t46 iM =>
 bd (gT (gd t38 true) (af .eql t46 (I .i64 0))) fun t47 =>
 bd (aC t38 t47 (B false)) fun t48 =>
 bd (aQ [(jh.getD 4 .any),t48]) fun xp =>
 some (xp,iM))
 (fun i16 jh gH=>none)
 (fun Ep gH=>some (Ep,gH))
theorem KT (aa:ak) (N:Nat) (a0:T) (a1:T) (a2:T) (s:St):aS Tryz.prog aa N Tryz.f175 [a0,a1,a2] s=f175 aa N a0 a1 a2 s:=by kernel_rfl
theorem GD (d:Nat) (a0:T) (a1:T) (a2:T) (s:St):R (d+1) 175 [a0,a1,a2] s=f175 (R d) 8192 a0 a1 a2 s:=(au rfl Tryz.func175 (by kernel_rfl)).trans (KT ..)
def f135 (aa:ak) (N:Nat) (a0:T) (a1:T) (a2:T) (s:St):Option (T×St) :=
 bd (ax 5 a0 (some a1) none none) fun t12 =>
 bd (aA a2) fun t14 =>
 bd (af .eql t14 (I .i64 0)) fun t16 =>
 br t16 (some (a0,s))
 (bd (aA a0) fun t19 =>
 bd (af .eql a1 t19) fun t22 =>
 br t22 (ay (aH 5 40 a0 a2 s) fun t25 s1 =>
 some (t25,s1))
 (bd (af .add t19 t14) fun t28 =>
 bd (x8 a0) fun t30 =>
 bd (af .gtr t28 t30) fun t31 =>
 br t31 (bd (ax 5 a0 none (some a1) none) fun t34 =>
 bd (af .add t19 t14) fun t37 =>
 bd (af .sub t37 a1) fun t39 =>
 ay (kQ 5 40 [.int .i64 0,.int .i64 0,.int .i64 0,.int .i64 0,.int .u32 0] t34 t39 s) fun t40 s2 =>
 bd (ax 5 t40 (some a1) none none) fun t43 =>
 ay (fM 5 t43 a2 s2) fun t45 s3 =>
 bd (af .add a1 t14) fun t49 =>
 bd (ax 5 t40 (some t49) none none) fun t50 =>
 bd (ax 5 a0 (some a1) none none) fun t53 =>
 ay (fM 5 t50 t53 s3) fun t54 s4 =>
 some (t40,s4))
 (bd (af .add t19 t14) fun t59 =>
 bd (ax 5 a0 none (some t59) none) fun t60 =>
 bd (af .add a1 t14) fun t65 =>
 bd (ax 5 t60 (some t65) none none) fun t66 =>
 ay (tR Tryz.prog 177 [a2,t66] s) fun t67 s5 =>
 bd (jO .not t67) fun t68 =>
 br t68 (bd (af .add a1 t14) fun t72 =>
 bd (ax 5 t60 (some t72) none none) fun t73 =>
 bd (ax 5 t60 (some a1) none none) fun t76 =>
 ay (fM 5 t73 t76 s5) fun t77 s6 =>
 bd (ax 5 t60 (some a1) none none) fun t80 =>
 ay (fM 5 t80 a2 s6) fun t82 s7 =>
 some (t60,s7))
 (bd (ax 5 t60 (some t19) none none) fun t86 =>
 ay (fM 5 t86 a2 s5) fun t88 s8 =>
 bd (ax 5 t60 (some a1) none none) fun t91 =>
 ay (aa 178 [t91,t14] s8) fun t93 s9 =>
 some (t60,s9)))))
theorem Cg (aa:ak) (N:Nat) (a0:T) (a1:T) (a2:T) (s:St):aS Tryz.prog aa N Tryz.f135 [a0,a1,a2] s=f135 aa N a0 a1 a2 s:=by kernel_rfl
def f136 (aa:ak) (N:Nat) (a0:T) (a1:T) (a2:T) (s:St):Option (T×St) :=
 bd (aA a0) fun t12 =>
 bd (ax 5 a0 (some a1) (some a2) (some t12)) fun t13 =>
 bd (af .eql a1 a2) fun t16 =>
 br t16 (some (a0,s))
 (bd (aA a0) fun t19 =>
 bd (ax 5 a0 none (some a1) none) fun t22 =>
 bd (ax 5 a0 (some a2) none none) fun t25 =>
 ay (aH 5 40 t22 t25 s) fun t26 s1 =>
 bd (aA t26) fun t29 =>
 bd (ax 5 t26 (some t29) (some t19) none) fun t31 =>
 ay (kP 5 [.int .i64 0,.int .i64 0,.int .i64 0,.int .i64 0,.int .u32 0] t31 s1) fun _ s2 =>
 some (t26,s2))
theorem Kv (aa:ak) (N:Nat) (a0:T) (a1:T) (a2:T) (s:St):aS Tryz.prog aa N Tryz.f136 [a0,a1,a2] s=f136 aa N a0 a1 a2 s:=by kernel_rfl
end
noncomputable section
def f131 (aa:ak) (N:Nat) (a0:T) (s:St):Option (T×St) :=
 bd (aA a0) fun t5 =>
 bd (aF .u64 t5) fun t6 =>
 ay (aa 159 [t6] s) fun t7 s1 =>
 ay (aa 161 [t7] s1) fun t10 s2 =>
 ay (aa 174 [t10,a0] s2) fun t12 s3 =>
 ay (aa 173 [t12] s3) fun t13 s4 =>
 ay (aK s4 (aR 3 (aE [.az,.az,.az] [(0,1,t7),(1,1,t13),(2,1,a0)]))) fun t15 s5 =>
 ay (aa 172 [t15] s5) fun t16 s6 =>
 some (t16,s6)
theorem Kr (aa:ak) (N:Nat) (a0:T) (s:St):aS Tryz.prog aa N Tryz.f131 [a0] s=f131 aa N a0 s:=by kernel_rfl
theorem Gk (d:Nat) (a0:T) (s:St):R (d+1) 131 [a0] s=f131 (R d) 8192 a0 s:=(au rfl Tryz.func131 (by kernel_rfl)).trans (Kr ..)
def f93 (aa:ak) (N:Nat) (a0:T) (a1:T) (s:St):Option (T×St) :=
 ay (aa 118 [a0,a1] s) fun t15 s1 =>
 bd (ah t15 0) fun t16 =>
 bd (ah t15 1) fun t17 =>
 bd (ah t15 2) fun t18 =>
 bd (af .neq t18 (I .i64 0)) fun t20 =>
 bd (gT (gd t20 false) (some a0)) fun t22 =>
 bd (gT (gd t20 false) (aA t22)) fun t23 =>
 bd (gT (gd t20 false) (some t17)) fun t24 =>
 bd (gT (gd t20 false) (af .sub t23 t24)) fun t25 =>
 bd (gT (gd t20 false) (af .lss t25 (I .i64 4))) fun t26 =>
 bd (aC t20 (B true) t26) fun t27 =>
 bd (gT (gd t27 false) (some t16)) fun t29 =>
 bd (gT (gd t27 false) (some a0)) fun t30 =>
 bd (gT (gd t27 false) (aA t30)) fun t31 =>
 bd (gT (gd t27 false) (some t17)) fun t32 =>
 bd (gT (gd t27 false) (af .sub t31 t32)) fun t33 =>
 bd (gT (gd t27 false) (af .sub t33 (I .i64 4))) fun t34 =>
 bd (gT (gd t27 false) (aF .u64 t34)) fun t35 =>
 bd (gT (gd t27 false) (af .gtr t29 t35)) fun t36 =>
 bd (aC t27 (B true) t36) fun t37 =>
 br t37 (bd (aQ [(Z .az),a1,(B false)]) fun r2 =>
 some (r2,s1))
 (bd (af .add t17 (I .i64 4)) fun t40 =>
 bd (aF .i64 t16) fun t42 =>
 bd (af .add t40 t42) fun t43 =>
 bd (af .add t17 (I .i64 4)) fun t46 =>
 bd (ax 1 a0 (some t46) (some t43) none) fun t48 =>
 bd (ax 1 a0 (some a1) (some t43) none) fun t52 =>
 ay (aa 131 [t48] s1) fun t54 s3 =>
 ay (aa 130 [t52,t54] s3) fun t55 s4 =>
 bd (jO .not t55) fun t56 =>
 br t56 (bd (aQ [(Z .az),a1,(B false)]) fun r5 =>
 some (r5,s4))
 (bd (aQ [t48,t43,(B true)]) fun r6 =>
 some (r6,s4)))
theorem Ph (aa:ak) (N:Nat) (a0:T) (a1:T) (s:St):aS Tryz.prog aa N Tryz.f93 [a0,a1] s=f93 aa N a0 a1 s:=by kernel_rfl
theorem LS (d:Nat) (a0:T) (a1:T) (s:St):R (d+1) 93 [a0,a1] s=f93 (R d) 8192 a0 a1 s:=(au rfl Tryz.func93 (by kernel_rfl)).trans (Ph ..)
def f95 (aa:ak) (N:Nat) (a0:T) (s:St):Option (T×St) :=
 ay (aK s (ct a0)) fun t1 s1 =>
 bd (aG 8 t1 s1.get) fun t7 =>
 ay (aa 133 [t7] s1) fun t8 s2 =>
 bd (ah t8 0) fun t9 =>
 bd (ah t8 1) fun t10 =>
 bd (af .neq t10 (I .i64 0)) fun t12 =>
 br t12 (bd (aQ [(Z .az),t10]) fun r3 =>
 some (r3,s2))
 (ay (aa 131 [t9] s2) fun t15 s4 =>
 bd (aQ [t15,(I .i64 0)]) fun r5 =>
 some (r5,s4))
theorem Pk (aa:ak) (N:Nat) (a0:T) (s:St):aS Tryz.prog aa N Tryz.f95 [a0] s=f95 aa N a0 s:=by kernel_rfl
theorem LV (d:Nat) (a0:T) (s:St):R (d+1) 95 [a0] s=f95 (R d) 8192 a0 s:=(au rfl Tryz.func95 (by kernel_rfl)).trans (Pk ..)
def oR (aa:ak) (N:Nat) (v:List T) (s:St):Option (JO×St) :=
 bd (aA (v.getD 1 .any)) fun t12 =>
 bd (af .lss t12 (I .i64 2000)) fun t13 =>
 br t13 (jn (ay (aa 93 [(v.getD 0 .any),(v.getD 2 .any)] s) fun t17 s1 =>
 bd (ah t17 0) fun t18 =>
 bd (ah t17 1) fun t19 =>
 bd (ah t17 2) fun t20 =>
 bd (jO .not t20) fun t22 =>
 br t22 (some (.exit 0 [(v.getD 1 .any),(v.getD 2 .any)],s1))
 (ay (aa 94 [t18] s1) fun t25 s2 =>
 bd (ah t25 0) fun t26 =>
 bd (ah t25 1) fun t27 =>
 ay (aK s2 (ba [.int .i64 0,.int .i64 0,.int .i64 0,.int .i64 0,.int .i64 0,.int .i64 0,.int .u32 0,.str []])) fun t9 s3 =>
 ay (aw 8 t9 t26 s3) fun _ s4 =>
 bd (af .neq t27 (I .i64 0)) fun t29 =>
 br t29 (some (.exit 0 [(v.getD 1 .any),(v.getD 2 .any)],s4))
 (bd (aG 8 t9 s4.get) fun t31 =>
 ay (aK s4 (aR 1 (aE [.int .i64 0,.int .i64 0,.int .i64 0,.int .i64 0,.int .i64 0,.int .i64 0,.int .u32 0,.str []] [(0,8,t31)]))) fun t32 s5 =>
 ay (aH 8 72 (v.getD 1 .any) t32 s5) fun t33 s6 =>
 some (.normal [(v.getD 0 .any),t33,t19],s6))))
 (fun v7 s8=>some (.normal [(v7.getD 0 .any),(v7.getD 1 .any),(v7.getD 2 .any)],s8))
 (fun i9 v7 s8=>some (.exit i9 v7,s8))
 (fun pH s8=>some (.ret pH,s8)))
 (some (.exit 0 [(v.getD 1 .any),(v.getD 2 .any)],s))
def f43 (aa:ak) (N:Nat) (a0:T) (s:St):Option (T×St) :=
 jn (jn (loops (oR aa N) N [a0,(Z .az),(I .i64 0)] s)
 (fun v11 cd=>some (.normal [.any,.any],cd))
 (fun i13 v11 cd=>if i13=0 then some (.normal v11,cd) else some (.exit i13 v11,cd))
 (fun xo cd=>some (.ret xo,cd)))
 (fun ox gC=>bd (aQ [(ox.getD 0 .any),(ox.getD 1 .any)]) fun xp =>
 some (xp,gC))
 (fun i17 ox gC=>none)
 (fun Er gC=>some (Er,gC))
theorem ON (aa:ak) (N:Nat) (a0:T) (s:St):aS Tryz.prog aa N Tryz.f43 [a0] s=f43 aa N a0 s:=by kernel_rfl
theorem Lr (d:Nat) (a0:T) (s:St):R (d+1) 43 [a0] s=f43 (R d) 8192 a0 s:=(au rfl Tryz.func43 (by kernel_rfl)).trans (ON ..)
end
noncomputable section
def f10 (aa:ak) (N:Nat) (a0:T) (s:St):Option (T×St) :=
 bd (af .lss a0 (I .i64 0)) fun t4 =>
 bd (gT (gd t4 false) (some a0)) fun t6 =>
 bd (gT (gd t4 false) (af .gtr t6 (I .i64 1048576))) fun t7 =>
 bd (aC t4 (B true) t7) fun t8 =>
 br t8 (some ((Z .bU),s))
 (ay (aK s (MJ)) fun t10 s1 =>
 bd (aU (aE [.int .i64 0,.mz] [(0,1,a0),(1,1,t10)])) fun t11 =>
 ay (aK s1 (ct t11)) fun t12 s2 =>
 some (t12,s2))
theorem Oy (aa:ak) (N:Nat) (a0:T) (s:St):aS Tryz.prog aa N Tryz.f10 [a0] s=f10 aa N a0 s:=by kernel_rfl
theorem Ke (d:Nat) (a0:T) (s:St):R (d+1) 10 [a0] s=f10 (R d) 8192 a0 s:=(au rfl Tryz.func10 (by kernel_rfl)).trans (Oy ..)
def f12 (aa:ak) (N:Nat) (a0:T) (a1:T) (a2:T) (s:St):Option (T×St) :=
 ay (aa 36 [a0,a1] s) fun t12 s1 =>
 bd (ah t12 0) fun t13 =>
 bd (ah t12 1) fun t14 =>
 bd (af .neq t14 (I .i64 0)) fun t16 =>
 bd (gT (gd t16 true) (some t14)) fun t18 =>
 bd (gT (gd t16 true) (af .neq t18 (I .i64 9))) fun t19 =>
 bd (aC t16 t19 (B false)) fun t20 =>
 br t20 (some (t14,s1))
 (bd (iC .p t13 (Z .bU)) fun t23 =>
 bd (gT (gd t23 true) (some a0)) fun t25 =>
 bd (gT (gd t23 true) (bu t25)) fun t26 =>
 bd (gT (gd t23 true) (ae 1 t26)) fun t27 =>
 bd (gT (gd t23 true) (ab t27 s1.get)) fun t28 =>
 bd (gT (gd t23 true) (ga t28 s1.get)) fun t29 =>
 bd (gT (gd t23 true) (af .eql t29 (I .i64 200))) fun t30 =>
 bd (aC t23 t30 (B false)) fun t31 =>
 bd (gT (gd t31 false) (some a0)) fun t33 =>
 ay (gS (gd t31 false) s1 (aa 30 [t33] s1)) fun t34 s2 =>
 bd (gT (gd t31 false) (some a2)) fun t35 =>
 bd (gT (gd t31 false) (aA t35)) fun t36 =>
 bd (gT (gd t31 false) (af .add t34 t36)) fun t37 =>
 bd (gT (gd t31 false) (some a0)) fun t38 =>
 bd (gT (gd t31 false) (bu t38)) fun t39 =>
 bd (gT (gd t31 false) (ae 0 t39)) fun t40 =>
 bd (gT (gd t31 false) (ab t40 s2.get)) fun t41 =>
 bd (gT (gd t31 false) (af .gtr t37 t41)) fun t42 =>
 bd (aC t31 (B true) t42) fun t43 =>
 ck ((wq (gd t31 false) (decide (ab t40 s1.get=ab t40 s2.get))&&true)&&true) (br t43 (some ((I .i64 8),s2))
 (bd (iC .p t13 (Z .bU)) fun t45 =>
 jn (br t45 (bd (aU (aE [.az,.int .i64 0] [])) fun t46 =>
 ay (aK s2 (ct t46)) fun t47 s3 =>
 bd (bu a0) fun t49 =>
 bd (ae 1 t49) fun t50 =>
 bd (ab t50 s3.get) fun t51 =>
 ay (Ee .s t51 a1 t47 s3) fun _ s4 =>
 some (.normal [a2,t47],s4))
 (some (.normal [a2,t13],s2)))
 (fun v5 s6=>bd (bu (v5.getD 1 .any)) fun t56 =>
 bd (ae 0 t56) fun t57 =>
 bd (ab t57 s6.get) fun t58 =>
 ay (aH 1 1 t58 (v5.getD 0 .any) s6) fun t60 s9 =>
 bd (bu (v5.getD 1 .any)) fun t61 =>
 bd (ae 0 t61) fun t62 =>
 ay (aw 1 t62 t60 s9) fun _ bV =>
 some ((I .i64 0),bV))
 (fun i7 v5 s6=>none)
 (fun r8 s6=>some (r8,s6)))))
theorem Oz (aa:ak) (N:Nat) (a0:T) (a1:T) (a2:T) (s:St):aS Tryz.prog aa N Tryz.f12 [a0,a1,a2] s=f12 aa N a0 a1 a2 s:=by kernel_rfl
theorem wK (d:Nat) (a0:T) (a1:T) (a2:T) (s:St):R (d+1) 12 [a0,a1,a2] s=f12 (R d) 8192 a0 a1 a2 s:=(au rfl Tryz.func12 (by kernel_rfl)).trans (Oz ..)
def f47 (aa:ak) (N:Nat) (a0:T) (a1:T) (s:St):Option (T×St) :=
 ay (aa 36 [a0,a1] s) fun t10 s1 =>
 bd (ah t10 0) fun t11 =>
 bd (ah t10 1) fun t12 =>
 bd (af .eql t12 (I .i64 0)) fun t14 =>
 jn (br t14 (bd (bu t11) fun t17 =>
 bd (ae 0 t17) fun t18 =>
 bd (ab t18 s1.get) fun t19 =>
 bd (aA t19) fun t20 =>
 bd (bu t11) fun t21 =>
 bd (ae 1 t21) fun t22 =>
 ay (aw 1 t22 t20 s1) fun _ s2 =>
 some (.normal [t12],s2))
 (some (.normal [t12],s1)))
 (fun v3 s4=>some ((v3.getD 0 .any),s4))
 (fun i5 v3 s4=>none)
 (fun r6 s4=>some (r6,s4))
theorem OR (aa:ak) (N:Nat) (a0:T) (a1:T) (s:St):aS Tryz.prog aa N Tryz.f47 [a0,a1] s=f47 aa N a0 a1 s:=by kernel_rfl
theorem Ck (d:Nat) (a0:T) (a1:T) (s:St):R (d+1) 47 [a0,a1] s=f47 (R d) 8192 a0 a1 s:=(au rfl Tryz.func47 (by kernel_rfl)).trans (OR ..)
def mT (aa:ak) (N:Nat) (v:List T) (s:St):Option (JO×St) :=
 bd (af .lss (v.getD 4 .any) (v.getD 3 .any)) fun t12 =>
 br t12 (jn (bd (av 1 (v.getD 2 .any) (v.getD 4 .any)) fun t14 =>
 bd (ab t14 s.get) fun t15 =>
 bd (bu (v.getD 0 .any)) fun t17 =>
 bd (ae 1 t17) fun t18 =>
 bd (ab t18 s.get) fun t19 =>
 bd (Go.Abs.F.look .s false (.s (.bU)) t19 t15 s.get) fun t21 =>
 bd (aA (v.getD 1 .any)) fun t24 =>
 bd (af .lss (v.getD 4 .any) t24) fun t25 =>
 jn (br t25 (bd (av 1 (v.getD 1 .any) (v.getD 4 .any)) fun t28 =>
 bd (ab t28 s.get) fun t29 =>
 bd (ki uJ t29 [(I .i64 0)]) fun t30 =>
 bd (bu t21) fun t32 =>
 bd (ae 0 t32) fun t33 =>
 bd (ab t33 s.get) fun t34 =>
 bd (aA t34) fun t35 =>
 bd (bu t21) fun t37 =>
 bd (ae 1 t37) fun t38 =>
 bd (ab t38 s.get) fun t39 =>
 bd (af .sub t35 t39) fun t40 =>
 bd (ki ni t30 [t40]) fun t41 =>
 some (.normal [(v.getD 0 .any),(v.getD 1 .any),t21,t41,(v.getD 2 .any),(v.getD 3 .any),(v.getD 4 .any)],s))
 (some (.normal [(v.getD 0 .any),(v.getD 1 .any),t21,(I .i64 0),(v.getD 2 .any),(v.getD 3 .any),(v.getD 4 .any)],s)))
 (fun v2 s3=>bd (bu (v2.getD 2 .any)) fun t44 =>
 bd (ae 0 t44) fun t45 =>
 bd (ab t45 s3.get) fun t46 =>
 bd (bu (v2.getD 2 .any)) fun t48 =>
 bd (ae 1 t48) fun t49 =>
 bd (ab t49 s3.get) fun t50 =>
 bd (af .add t50 (v2.getD 3 .any)) fun t52 =>
 bd (ax 1 t46 none (some t52) none) fun t53 =>
 bd (bu (v2.getD 2 .any)) fun t54 =>
 bd (ae 0 t54) fun t55 =>
 ay (aw 1 t55 t53 s3) fun _ s6 =>
 bd (bu (v2.getD 2 .any)) fun t58 =>
 bd (ae 0 t58) fun t59 =>
 bd (ab t59 s6.get) fun t60 =>
 bd (aA t60) fun t61 =>
 bd (bu (v2.getD 2 .any)) fun t62 =>
 bd (ae 1 t62) fun t63 =>
 ay (aw 1 t63 t61 s6) fun _ s7 =>
 some (.normal [(v2.getD 0 .any),(v2.getD 1 .any),(v2.getD 4 .any),(v2.getD 5 .any),(v2.getD 6 .any)],s7))
 (fun i4 v2 s3=>if i4=1 then some (.normal v2,s3) else some (.exit i4 v2,s3))
 (fun r5 s3=>some (.ret r5,s3)))
 (fun v8 s9=>bd (af .add (v8.getD 4 .any) (I .i64 1)) fun t64 =>
 some (.normal [(v8.getD 0 .any),(v8.getD 1 .any),(v8.getD 2 .any),(v8.getD 3 .any),t64],s9))
 (fun i10 v8 s9=>some (.exit i10 v8,s9))
 (fun Tn s9=>some (.ret Tn,s9)))
 (some (.exit 0 [],s))
def f25 (aa:ak) (N:Nat) (a0:T) (a1:T) (s:St):Option (T×St) :=
 ay (aa 29 [a0] s) fun t9 s1 =>
 bd (aA t9) fun t10 =>
 jn (jn (loops (mT aa N) N [a0,a1,t9,t10,(I .i64 0)] s1)
 (fun v12 ey=>some (.normal [],ey))
 (fun i14 v12 ey=>if i14=0 then some (.normal v12,ey) else some (.exit i14 v12,ey))
 (fun II ey=>some (.ret II,ey)))
 (fun gO jd=>bd (aQ []) fun BF =>
 some (BF,jd))
 (fun i18 gO jd=>none)
 (fun xp jd=>some (xp,jd))
theorem OH (aa:ak) (N:Nat) (a0:T) (a1:T) (s:St):aS Tryz.prog aa N Tryz.f25 [a0,a1] s=f25 aa N a0 a1 s:=by kernel_rfl
theorem Ln (d:Nat) (a0:T) (a1:T) (s:St):R (d+1) 25 [a0,a1] s=f25 (R d) 8192 a0 a1 s:=(au rfl Tryz.func25 (by kernel_rfl)).trans (OH ..)
def f42 (aa:ak) (N:Nat) (a0:T) (a1:T) (s:St):Option (T×St) :=
 ay (aa 36 [a0,a1] s) fun t11 s1 =>
 bd (ah t11 0) fun t12 =>
 bd (ah t11 1) fun t13 =>
 bd (af .neq t13 (I .i64 0)) fun t15 =>
 br t15 (bd (aQ [(Z .az),t13]) fun r2 =>
 some (r2,s1))
 (bd (bu t12) fun t18 =>
 bd (ae 0 t18) fun t19 =>
 bd (ab t19 s1.get) fun t20 =>
 ay (aa 92 [t20] s1) fun t21 s3 =>
 bd (aQ [t21,(I .i64 0)]) fun r4 =>
 some (r4,s3))
theorem OM (aa:ak) (N:Nat) (a0:T) (a1:T) (s:St):aS Tryz.prog aa N Tryz.f42 [a0,a1] s=f42 aa N a0 a1 s:=by kernel_rfl
theorem Ci (d:Nat) (a0:T) (a1:T) (s:St):R (d+1) 42 [a0,a1] s=f42 (R d) 8192 a0 a1 s:=(au rfl Tryz.func42 (by kernel_rfl)).trans (OM ..)
def f45 (aa:ak) (N:Nat) (a0:T) (a1:T) (a2:T) (s:St):Option (T×St) :=
 ay (aa 36 [a0,a1] s) fun t12 s1 =>
 bd (ah t12 0) fun t13 =>
 bd (ah t12 1) fun t14 =>
 jn (bd (af .neq t14 (I .i64 0)) fun t17 =>
 br t17 (some (.ret t14,s1))
 (bd (af .lss a2 (I .i64 0)) fun t21 =>
 bd (gT (gd t21 false) (some a2)) fun t23 =>
 bd (gT (gd t21 false) (some t13)) fun t24 =>
 bd (gT (gd t21 false) (bu t24)) fun t25 =>
 bd (gT (gd t21 false) (ae 0 t25)) fun t26 =>
 bd (gT (gd t21 false) (ab t26 s1.get)) fun t27 =>
 bd (gT (gd t21 false) (aA t27)) fun t28 =>
 bd (gT (gd t21 false) (af .gtr t23 t28)) fun t29 =>
 bd (aC t21 (B true) t29) fun t30 =>
 br t30 (some (.ret (I .i64 5),s1))
 (some (.normal [a2,t13],s1))))
 (fun v2 s3=>bd (bu (v2.getD 1 .any)) fun t34 =>
 bd (ae 0 t34) fun t35 =>
 bd (ab t35 s3.get) fun t36 =>
 bd (ax 1 t36 none (some (v2.getD 0 .any)) none) fun t38 =>
 bd (bu (v2.getD 1 .any)) fun t40 =>
 bd (ae 1 t40) fun t41 =>
 bd (ab t41 s3.get) fun t42 =>
 bd (ki ni t42 [(v2.getD 0 .any)]) fun t44 =>
 bd (bu (v2.getD 1 .any)) fun t45 =>
 bd (ae 0 t45) fun t46 =>
 ay (aw 1 t46 t38 s3) fun _ s6 =>
 bd (bu (v2.getD 1 .any)) fun t47 =>
 bd (ae 1 t47) fun t48 =>
 ay (aw 1 t48 t44 s6) fun _ s7 =>
 some ((I .i64 0),s7))
 (fun i4 v2 s3=>none)
 (fun r5 s3=>some (r5,s3))
theorem OP (aa:ak) (N:Nat) (a0:T) (a1:T) (a2:T) (s:St):aS Tryz.prog aa N Tryz.f45 [a0,a1,a2] s=f45 aa N a0 a1 a2 s:=by kernel_rfl
theorem Cj (d:Nat) (a0:T) (a1:T) (a2:T) (s:St):R (d+1) 45 [a0,a1,a2] s=f45 (R d) 8192 a0 a1 a2 s:=(au rfl Tryz.func45 (by kernel_rfl)).trans (OP ..)
def f54 (aa:ak) (N:Nat) (a0:T) (a1:T) (s:St):Option (T×St) :=
 ay (aa 36 [a0,a1] s) fun t10 s1 =>
 bd (ah t10 0) fun t11 =>
 bd (ah t10 1) fun t12 =>
 bd (af .eql t12 (I .i64 0)) fun t14 =>
 jn (br t14 (bd (bu a0) fun t16 =>
 bd (ae 1 t16) fun t17 =>
 bd (ab t17 s1.get) fun t18 =>
 ay (Qd .s t18 a1 s1) fun _ s2 =>
 some (.normal [t12],s2))
 (some (.normal [t12],s1)))
 (fun v3 s4=>some ((v3.getD 0 .any),s4))
 (fun i5 v3 s4=>none)
 (fun r6 s4=>some (r6,s4))
theorem OY (aa:ak) (N:Nat) (a0:T) (a1:T) (s:St):aS Tryz.prog aa N Tryz.f54 [a0,a1] s=f54 aa N a0 a1 s:=by kernel_rfl
theorem Cl (d:Nat) (a0:T) (a1:T) (s:St):R (d+1) 54 [a0,a1] s=f54 (R d) 8192 a0 a1 s:=(au rfl Tryz.func54 (by kernel_rfl)).trans (OY ..)
def mU (aa:ak) (N:Nat) (v:List T) (s:St):Option (JO×St) :=
 bd (af .lss (v.getD 4 .any) (v.getD 3 .any)) fun t10 =>
 br t10 (jn (bd (av 1 (v.getD 2 .any) (v.getD 4 .any)) fun t11 =>
 bd (ab t11 s.get) fun t12 =>
 bd (bu (v.getD 0 .any)) fun t15 =>
 bd (ae 1 t15) fun t16 =>
 bd (ab t16 s.get) fun t17 =>
 bd (Go.Abs.F.look .s false (.s (.bU)) t17 t12 s.get) fun t19 =>
 bd (bu t19) fun t20 =>
 bd (ae 0 t20) fun t21 =>
 bd (ab t21 s.get) fun t22 =>
 bd (aA t22) fun t23 =>
 bd (af .add (v.getD 1 .any) t23) fun t24 =>
 some (.normal [(v.getD 0 .any),t24,(v.getD 2 .any),(v.getD 3 .any),(v.getD 4 .any)],s))
 (fun v2 s3=>bd (af .add (v2.getD 4 .any) (I .i64 1)) fun t25 =>
 some (.normal [(v2.getD 0 .any),(v2.getD 1 .any),(v2.getD 2 .any),(v2.getD 3 .any),t25],s3))
 (fun i4 v2 s3=>some (.exit i4 v2,s3))
 (fun r5 s3=>some (.ret r5,s3)))
 (some (.exit 0 [(v.getD 1 .any)],s))
def f30 (aa:ak) (N:Nat) (a0:T) (s:St):Option (T×St) :=
 ay (aa 29 [a0] s) fun t7 s1 =>
 bd (aA t7) fun t8 =>
 jn (jn (loops (mU aa N) N [a0,(I .i64 0),t7,t8,(I .i64 0)] s1)
 (fun v6 s7=>some (.normal [.any],s7))
 (fun i8 v6 s7=>if i8=0 then some (.normal v6,s7) else some (.exit i8 v6,s7))
 (fun r9 s7=>some (.ret r9,s7)))
 (fun v10 bK=>some ((v10.getD 0 .any),bK))
 (fun i12 v10 bK=>none)
 (fun qK bK=>some (qK,bK))
theorem OJ (aa:ak) (N:Nat) (a0:T) (s:St):aS Tryz.prog aa N Tryz.f30 [a0] s=f30 aa N a0 s:=by kernel_rfl
theorem Lp (d:Nat) (a0:T) (s:St):R (d+1) 30 [a0] s=f30 (R d) 8192 a0 s:=(au rfl Tryz.func30 (by kernel_rfl)).trans (OJ ..)
def f36 (aa:ak) (N:Nat) (a0:T) (a1:T) (s:St):Option (T×St) :=
 jn (bd (iC .p a0 (Z .bU)) fun t8 =>
 br t8 (bd (aQ [(Z .bU),(I .i64 10)]) fun r1 =>
 some (.ret r1,s))
 (ay (aa 90 [a1] s) fun t11 s2 =>
 bd (jO .not t11) fun t12 =>
 br t12 (bd (aQ [(Z .bU),(I .i64 1)]) fun r3 =>
 some (.ret r3,s2))
 (bd (bu a0) fun t15 =>
 bd (ae 1 t15) fun t16 =>
 bd (ab t16 s2.get) fun t17 =>
 bd (Go.Abs.F.look .s false (.s (.bU)) t17 a1 s2.get) fun t19 =>
 bd (iC .p t19 (Z .bU)) fun t20 =>
 br t20 (bd (aQ [(Z .bU),(I .i64 9)]) fun r4 =>
 some (.ret r4,s2))
 (some (.normal [a0,a1],s2)))))
 (fun v5 s6=>bd (bu (v5.getD 0 .any)) fun t22 =>
 bd (ae 1 t22) fun t23 =>
 bd (ab t23 s6.get) fun t24 =>
 bd (Go.Abs.F.look .s false (.s (.bU)) t24 (v5.getD 1 .any) s6.get) fun t26 =>
 bd (aQ [t26,(I .i64 0)]) fun r9 =>
 some (r9,s6))
 (fun i7 v5 s6=>none)
 (fun r8 s6=>some (r8,s6))
theorem OK (aa:ak) (N:Nat) (a0:T) (a1:T) (s:St):aS Tryz.prog aa N Tryz.f36 [a0,a1] s=f36 aa N a0 a1 s:=by kernel_rfl
theorem Ch (d:Nat) (a0:T) (a1:T) (s:St):R (d+1) 36 [a0,a1] s=f36 (R d) 8192 a0 a1 s:=(au rfl Tryz.func36 (by kernel_rfl)).trans (OK ..)
end
noncomputable section
def f49 (aa:ak) (N:Nat) (a0:T) (a1:T) (s:St):Option (T×St) :=
 ay (aa 98 [a0,a1] s) fun t7 s1 =>
 bd (af .geq t7 (I .i64 0)) fun t8 =>
 some (t8,s1)
theorem OT (aa:ak) (N:Nat) (a0:T) (a1:T) (s:St):aS Tryz.prog aa N Tryz.f49 [a0,a1] s=f49 aa N a0 a1 s:=by kernel_rfl
theorem Lv (d:Nat) (a0:T) (a1:T) (s:St):R (d+1) 49 [a0,a1] s=f49 (R d) 8192 a0 a1 s:=(au rfl Tryz.func49 (by kernel_rfl)).trans (OT ..)
def sE (aa:ak) (N:Nat) (v:List T) (s:St):Option (JO×St) :=
 bd (af .lss (v.getD 3 .any) (v.getD 2 .any)) fun t9 =>
 br t9 (jn (bd (av 5 (v.getD 0 .any) (v.getD 3 .any)) fun t14 =>
 bd (aG 5 t14 s.get) fun t15 =>
 ay (dyn Tryz.prog aa (v.getD 1 .any) [t15] s) fun t16 s1 =>
 br t16 (some (.ret (v.getD 3 .any),s1))
 (some (.normal [(v.getD 0 .any),(v.getD 1 .any),(v.getD 2 .any),(v.getD 3 .any)],s1)))
 (fun v2 s3=>bd (af .add (v2.getD 3 .any) (I .i64 1)) fun t18 =>
 some (.normal [(v2.getD 0 .any),(v2.getD 1 .any),(v2.getD 2 .any),t18],s3))
 (fun i4 v2 s3=>some (.exit i4 v2,s3))
 (fun r5 s3=>some (.ret r5,s3)))
 (some (.exit 0 [],s))
def f98 (aa:ak) (N:Nat) (a0:T) (a1:T) (s:St):Option (T×St) :=
 bd (aA a0) fun t7 =>
 jn (jn (loops (sE aa N) N [a0,a1,t7,(I .i64 0)] s)
 (fun v6 s7=>some (.normal [],s7))
 (fun i8 v6 s7=>if i8=0 then some (.normal v6,s7) else some (.exit i8 v6,s7))
 (fun r9 s7=>some (.ret r9,s7)))
 (fun v10 bK=>some ((I .i64 (-1)),bK))
 (fun i12 v10 bK=>none)
 (fun qK bK=>some (qK,bK))
theorem Po (aa:ak) (N:Nat) (a0:T) (a1:T) (s:St):aS Tryz.prog aa N Tryz.f98 [a0,a1] s=f98 aa N a0 a1 s:=by kernel_rfl
theorem Cn (d:Nat) (a0:T) (a1:T) (s:St):R (d+1) 98 [a0,a1] s=f98 (R d) 8192 a0 a1 s:=(au rfl Tryz.func98 (by kernel_rfl)).trans (Po ..)
def f50 (aa:ak) (N:Nat) (a0:T) (a1:T) (s:St):Option (T×St) :=
 ay (aK s (ct a0)) fun t2 s1 =>
 bd (ab a1 s1.get) fun t4 =>
 bd (aG 5 t2 s1.get) fun t5 =>
 ay (aa 51 [t4,t5] s1) fun t6 s2 =>
 bd (jO .not t6) fun t7 =>
 some (t7,s2)
theorem OU (aa:ak) (N:Nat) (a0:T) (a1:T) (s:St):aS Tryz.prog aa N Tryz.f50 [a0,a1] s=f50 aa N a0 a1 s:=by kernel_rfl
theorem Lw (d:Nat) (a0:T) (a1:T) (s:St):R (d+1) 50 [a0,a1] s=f50 (R d) 8192 a0 a1 s:=(au rfl Tryz.func50 (by kernel_rfl)).trans (OU ..)
def f53 (aa:ak) (N:Nat) (a0:T) (a1:T) (s:St):Option (T×St) :=
 ay (aK s (ct a0)) fun t2 s1 =>
 bd (ae 0 t2) fun t4 =>
 bd (ab t4 s1.get) fun t5 =>
 bd (ab a1 s1.get) fun t6 =>
 bd (af .eql t5 t6) fun t7 =>
 some (t7,s1)
theorem OX (aa:ak) (N:Nat) (a0:T) (a1:T) (s:St):aS Tryz.prog aa N Tryz.f53 [a0,a1] s=f53 aa N a0 a1 s:=by kernel_rfl
theorem Lz (d:Nat) (a0:T) (a1:T) (s:St):R (d+1) 53 [a0,a1] s=f53 (R d) 8192 a0 a1 s:=(au rfl Tryz.func53 (by kernel_rfl)).trans (OX ..)
def f78 (aa:ak) (N:Nat) (a0:T) (s:St):Option (T×St) :=
 bd (iC .l a0 (Z .az)) fun t4 =>
 br t4 (some ((Z .az),s))
 (ay (aK s (aR 0 (aE [] []))) fun t5 s1 =>
 ay (aH 8 72 t5 a0 s1) fun t7 s2 =>
 some (t7,s2))
theorem Pa (aa:ak) (N:Nat) (a0:T) (s:St):aS Tryz.prog aa N Tryz.f78 [a0] s=f78 aa N a0 s:=by kernel_rfl
theorem LM (d:Nat) (a0:T) (s:St):R (d+1) 78 [a0] s=f78 (R d) 8192 a0 s:=(au rfl Tryz.func78 (by kernel_rfl)).trans (Pa ..)
def f80 (aa:ak) (N:Nat) (a0:T) (a1:T) (s:St):Option (T×St) :=
 ay (aK s (ct a0)) fun t2 s1 =>
 bd (ae 0 t2) fun t4 =>
 bd (ab t4 s1.get) fun t5 =>
 bd (ab a1 s1.get) fun t6 =>
 bd (af .eql t5 t6) fun t7 =>
 some (t7,s1)
theorem Pb (aa:ak) (N:Nat) (a0:T) (a1:T) (s:St):aS Tryz.prog aa N Tryz.f80 [a0,a1] s=f80 aa N a0 a1 s:=by kernel_rfl
theorem LN (d:Nat) (a0:T) (a1:T) (s:St):R (d+1) 80 [a0,a1] s=f80 (R d) 8192 a0 a1 s:=(au rfl Tryz.func80 (by kernel_rfl)).trans (Pb ..)
def sy (aa:ak) (N:Nat) (v:List T) (s:St):Option (JO×St) :=
 bd (af .lss (v.getD 4 .any) (v.getD 3 .any)) fun t34 =>
 br t34 (jn (bd (av 8 (v.getD 2 .any) (v.getD 4 .any)) fun t35 =>
 bd (aG 8 t35 s.get) fun t36 =>
 ay (aK s (ba [.int .i64 0,.int .i64 0,.int .i64 0,.int .i64 0,.int .i64 0,.int .i64 0,.int .u32 0,.str []])) fun t10 s7 =>
 ay (aw 8 t10 t36 s7) fun _ s8 =>
 bd (aG 8 t10 s8.get) fun t38 =>
 ay (aa 44 [(v.getD 1 .any),t38] s8) fun t39 s9 =>
 bd (jO .not t39) fun t40 =>
 br t40 (some (.exit 0 [(v.getD 0 .any),(v.getD 1 .any)],s9))
 (some (.normal [(v.getD 0 .any),(v.getD 1 .any),(v.getD 2 .any),(v.getD 3 .any),(v.getD 4 .any)],s9)))
 (fun v10 bK=>bd (af .add (v10.getD 4 .any) (I .i64 1)) fun t41 =>
 some (.normal [(v10.getD 0 .any),(v10.getD 1 .any),(v10.getD 2 .any),(v10.getD 3 .any),t41],bK))
 (fun i12 v10 bK=>some (.exit i12 v10,bK))
 (fun qK bK=>some (.ret qK,bK)))
 (some (.exit 0 [(v.getD 0 .any),(v.getD 1 .any)],s))
def jS (aa:ak) (N:Nat) (v:List T) (s:St):Option (JO×St) :=
 bd (af .lss (v.getD 5 .any) (v.getD 4 .any)) fun t73 =>
 br t73 (jn (bd (av 1 (v.getD 3 .any) (v.getD 5 .any)) fun t74 =>
 bd (ab t74 s.get) fun t75 =>
 ay (aa 52 [t75] s) fun t77 qu =>
 ay (aK qu (ba [.int .i64 0])) fun t14 xU =>
 ay (aw 1 t14 t77 xU) fun _ Tu =>
 bd (ab t14 Tu.get) fun t78 =>
 bd (af .eql t78 (I .i64 0)) fun t79 =>
 bd (gT (gd t79 false) (some (v.getD 2 .any))) fun t81 =>
 bd (gT (gd t79 false) (rN 53 [t14] [])) fun t82 =>
 ay (gS (gd t79 false) Tu (aa 49 [t81,t82] Tu)) fun t83 rA =>
 bd (aC t79 (B true) t83) fun t84 =>
 br t84 (some (.normal [(v.getD 0 .any),(v.getD 1 .any),(v.getD 2 .any),(v.getD 3 .any),(v.getD 4 .any),(v.getD 5 .any)],rA))
 (bd (ab (v.getD 0 .any) rA.get) fun t85 =>
 ay (aa 54 [t85,t75] rA) fun t87 E2 =>
 some (.normal [(v.getD 0 .any),(v.getD 1 .any),(v.getD 2 .any),(v.getD 3 .any),(v.getD 4 .any),(v.getD 5 .any)],E2)))
 (fun v35 E3=>bd (af .add (v35.getD 5 .any) (I .i64 1)) fun t88 =>
 some (.normal [(v35.getD 0 .any),(v35.getD 1 .any),(v35.getD 2 .any),(v35.getD 3 .any),(v35.getD 4 .any),t88],E3))
 (fun i37 v35 E3=>some (.exit i37 v35,E3))
 (fun Xr E3=>some (.ret Xr,E3)))
 (some (.exit 2 [(v.getD 1 .any)],s))
def f14 (aa:ak) (N:Nat) (a0:T) (s:St):Option (T×St) :=
 ay (aK s (ct a0)) fun t1 s1 =>
 bd (ab t1 s1.get) fun t15 =>
 bd (iC .p t15 (Z .bU)) fun t16 =>
 br t16 (bd (aQ [(Z .bU),(I .i64 1)]) fun r2 =>
 some (r2,s1))
 (bd (ab t1 s1.get) fun t17 =>
 ay (aa 41 [] s1) fun t18 s3 =>
 bd (aU (aE [.bU,.az,.az,.bU,.int .i64 0] [(0,1,t17),(3,1,t18)])) fun t19 =>
 ay (aK s3 (ct t19)) fun t20 s4 =>
 ck ((decide (ab t1 (cq 2 s3.get (Bw 3 s3.size (ct t19) []))=ab t1 s1.get)&&true)&&true) (bd (ab t1 s4.get) fun t22 =>
 ay (aa 42 [t22,(Z (.str [108,111,103]))] s4) fun t23 s5 =>
 bd (ah t23 0) fun t24 =>
 bd (ah t23 1) fun t25 =>
 ay (aa 43 [t24] s5) fun t28 s6 =>
 bd (ah t28 0) fun t29 =>
 bd (ah t28 1) fun t30 =>
 bd (aA t29) fun t32 =>
 jn (jn (loops (sy aa N) N [t1,t20,t29,t32,(I .i64 0)] s6)
 (fun jh gH=>some (.normal [.any,.any],gH))
 (fun i16 jh gH=>if i16=0 then some (.normal jh,gH) else some (.exit i16 jh,gH))
 (fun Ep gH=>some (.ret Ep,gH)))
 (fun mL lF=>bd (ab (mL.getD 0 .any) lF.get) fun t42 =>
 bd (bu (mL.getD 1 .any)) fun t45 =>
 bd (ae 1 t45) fun t46 =>
 bd (ab t46 lF.get) fun t47 =>
 bd (aA t47) fun t48 =>
 ay (aa 46 [(mL.getD 1 .any),t48] lF) fun t49 iO =>
 ay (aa 45 [t42,(Z (.str [108,111,103])),t49] iO) fun t50 mI =>
 ck ((decide (ab (mL.getD 0 .any) iO.get=ab (mL.getD 0 .any) lF.get)&&true)&&true) (bd (ab (mL.getD 0 .any) mI.get) fun t51 =>
 ay (aa 47 [t51,(Z (.str [108,111,103]))] mI) fun t52 I8 =>
 bd (bu (mL.getD 1 .any)) fun t55 =>
 bd (ae 1 t55) fun t56 =>
 bd (ab t56 I8.get) fun t57 =>
 bd (aA t57) fun t58 =>
 bd (bu (mL.getD 1 .any)) fun t59 =>
 bd (ae 4 t59) fun t60 =>
 ay (aw 1 t60 t58 I8) fun _ kB =>
 bd (bu (mL.getD 1 .any)) fun t62 =>
 bd (ae 3 t62) fun t63 =>
 bd (ab t63 kB.get) fun t64 =>
 ay (aa 48 [t64] kB) fun t65 mi =>
 bd (rN 50 [(mL.getD 0 .any)] []) fun t67 =>
 ay (aa 49 [t65,t67] mi) fun t68 rz =>
 br t68 (bd (aQ [(Z .bU),(I .i64 2)]) fun Nc =>
 some (Nc,rz))
 (bd (ab (mL.getD 0 .any) rz.get) fun t69 =>
 ay (aa 29 [t69] rz) fun t70 m6 =>
 bd (aA t70) fun t71 =>
 jn (jn (loops (jS aa N) N [(mL.getD 0 .any),(mL.getD 1 .any),t65,t70,t71,(I .i64 0)] m6)
 (fun E8 Ad=>some (.normal [.any],Ad))
 (fun i41 E8 Ad=>if i41=2 then some (.normal E8,Ad) else some (.exit i41 E8,Ad))
 (fun Xu Ad=>some (.ret Xu,Ad)))
 (fun E9 CZ=>bd (aQ [(E9.getD 0 .any),(I .i64 0)]) fun r47 =>
 some (r47,CZ))
 (fun i45 E9 CZ=>none)
 (fun Xw CZ=>some (Xw,CZ)))))
 (fun i20 mL lF=>none)
 (fun IJ lF=>some (IJ,lF))))
theorem OA (aa:ak) (N:Nat) (a0:T) (s:St):aS Tryz.prog aa N Tryz.f14 [a0] s=f14 aa N a0 s:=by kernel_rfl
theorem Ky (d:Nat) (a0:T) (s:St):R (d+1) 14 [a0] s=f14 (R d) 8192 a0 s:=(au rfl Tryz.func14 (by kernel_rfl)).trans (OA ..)
def f51 (aa:ak) (N:Nat) (a0:T) (a1:T) (s:St):Option (T×St) :=
 ay (aK s (ct a1)) fun t3 s1 =>
 bd (ae 0 t3) fun t10 =>
 bd (ab t10 s1.get) fun t11 =>
 ay (aa 69 [t11] s1) fun t12 s2 =>
 ay (aa 42 [a0,t12] s2) fun t13 s3 =>
 bd (ah t13 0) fun t14 =>
 bd (ah t13 1) fun t15 =>
 bd (af .neq t15 (I .i64 0)) fun t17 =>
 br t17 (some ((B false),s3))
 (ay (aa 77 [t14] s3) fun t20 s4 =>
 bd (ah t20 0) fun t21 =>
 bd (ah t20 1) fun t22 =>
 ay (aK s4 (ba [.int .i64 0,.int .i64 0,.int .i64 0,.int .i64 0,.int .u32 0])) fun t7 s5 =>
 ay (aw 5 t7 t21 s5) fun _ s6 =>
 bd (af .eql t22 (I .i64 0)) fun t24 =>
 bd (gT (gd t24 true) (aG 5 t7 s6.get)) fun t26 =>
 bd (gT (gd t24 true) (aG 5 t3 s6.get)) fun t27 =>
 bd (gT (gd t24 true) (iC (.a 5 [(0,.i),(1,.i),(2,.i),(3,.i),(4,.i)]) t26 t27)) fun t28 =>
 bd (aC t24 t28 (B false)) fun t29 =>
 some (t29,s6))
theorem OW (aa:ak) (N:Nat) (a0:T) (a1:T) (s:St):aS Tryz.prog aa N Tryz.f51 [a0,a1] s=f51 aa N a0 a1 s:=by kernel_rfl
theorem Lx (d:Nat) (a0:T) (a1:T) (s:St):R (d+1) 51 [a0,a1] s=f51 (R d) 8192 a0 a1 s:=(au rfl Tryz.func51 (by kernel_rfl)).trans (OW ..)
def f46 (aa:ak) (N:Nat) (a0:T) (a1:T) (s:St):Option (T×St) :=
 bd (af .eql a1 (I .i64 0)) fun t6 =>
 br t6 (some ((I .i64 0),s))
 (bd (bu a0) fun t8 =>
 bd (ae 2 t8) fun t9 =>
 bd (ab t9 s.get) fun t10 =>
 bd (af .sub a1 (I .i64 1)) fun t12 =>
 bd (av 1 t10 t12) fun t13 =>
 bd (ab t13 s.get) fun t14 =>
 some (t14,s))
theorem OQ (aa:ak) (N:Nat) (a0:T) (a1:T) (s:St):aS Tryz.prog aa N Tryz.f46 [a0,a1] s=f46 aa N a0 a1 s:=by kernel_rfl
theorem Lt (d:Nat) (a0:T) (a1:T) (s:St):R (d+1) 46 [a0,a1] s=f46 (R d) 8192 a0 a1 s:=(au rfl Tryz.func46 (by kernel_rfl)).trans (OQ ..)
def f44 (aa:ak) (N:Nat) (a0:T) (a1:T) (s:St):Option (T×St) :=
 ay (aK s (ct a1)) fun t3 s1 =>
 bd (aG 8 t3 s1.get) fun t8 =>
 ay (aa 95 [t8] s1) fun t9 s2 =>
 bd (ah t9 0) fun t10 =>
 bd (ah t9 1) fun t11 =>
 bd (af .neq t11 (I .i64 0)) fun t13 =>
 bd (gT (gd t13 false) (some a0)) fun t15 =>
 bd (gT (gd t13 false) (bu t15)) fun t16 =>
 bd (gT (gd t13 false) (ae 3 t16)) fun t17 =>
 bd (gT (gd t13 false) (ab t17 s2.get)) fun t18 =>
 bd (gT (gd t13 false) (aG 8 t3 s2.get)) fun t19 =>
 ay (gS (gd t13 false) s2 (aa 96 [t18,t19] s2)) fun t20 s3 =>
 bd (gT (gd t13 false) (af .neq t20 (I .i64 0))) fun t21 =>
 bd (aC t13 (B true) t21) fun t22 =>
 br t22 (some ((B false),s3))
 (bd (bu a0) fun t25 =>
 bd (ae 2 t25) fun t26 =>
 bd (ab t26 s3.get) fun t27 =>
 bd (bu a0) fun t30 =>
 bd (ae 1 t30) fun t31 =>
 bd (ab t31 s3.get) fun t32 =>
 bd (aA t32) fun t33 =>
 ay (aa 46 [a0,t33] s3) fun t34 s4 =>
 bd (aA t10) fun t36 =>
 bd (af .add t34 t36) fun t37 =>
 ay (aK s4 (aR 1 (aE [.int .i64 0] [(0,1,t37)]))) fun t38 s5 =>
 ay (aH 1 8 t27 t38 s5) fun t39 s6 =>
 bd (bu a0) fun t40 =>
 bd (ae 2 t40) fun t41 =>
 ay (aw 1 t41 t39 s6) fun _ s7 =>
 ck ((decide (ab t26 (cq 12 s4.get (Bw 15 s4.size (aR 1 (aE [.int .i64 0] [(0,1,t37)])) []))=ab t26 s3.get)&&true)&&true) (bd (bu a0) fun t44 =>
 bd (ae 1 t44) fun t45 =>
 bd (ab t45 s7.get) fun t46 =>
 bd (aG 8 t3 s7.get) fun t47 =>
 ay (aK s7 (aR 1 (aE [.int .i64 0,.int .i64 0,.int .i64 0,.int .i64 0,.int .i64 0,.int .i64 0,.int .u32 0,.str []] [(0,8,t47)]))) fun t48 s8 =>
 ay (aH 8 72 t46 t48 s8) fun t49 s9 =>
 bd (bu a0) fun t50 =>
 bd (ae 1 t50) fun t51 =>
 ay (aw 1 t51 t49 s9) fun _ bV =>
 some ((B true),bV)))
theorem OO (aa:ak) (N:Nat) (a0:T) (a1:T) (s:St):aS Tryz.prog aa N Tryz.f44 [a0,a1] s=f44 aa N a0 a1 s:=by kernel_rfl
theorem Ls (d:Nat) (a0:T) (a1:T) (s:St):R (d+1) 44 [a0,a1] s=f44 (R d) 8192 a0 a1 s:=(au rfl Tryz.func44 (by kernel_rfl)).trans (OO ..)
def f68 (aa:ak) (N:Nat) (a0:T) (a1:T) (s:St):Option (T×St) :=
 ay (aK s (ct a1)) fun t3 s1 =>
 bd (aG 8 t3 s1.get) fun t9 =>
 ay (aa 95 [t9] s1) fun t10 s2 =>
 bd (ah t10 0) fun t11 =>
 bd (ah t10 1) fun t12 =>
 bd (af .neq t12 (I .i64 0)) fun t14 =>
 br t14 (some (t12,s2))
 (bd (bu a0) fun t17 =>
 bd (ae 0 t17) fun t18 =>
 bd (ab t18 s2.get) fun t19 =>
 ay (aa 12 [t19,(Z (.str [108,111,103])),t11] s2) fun t21 s3 =>
 bd (af .neq t21 (I .i64 0)) fun t23 =>
 br t23 (some (t21,s3))
 (bd (aG 8 t3 s3.get) fun t26 =>
 ay (aa 44 [a0,t26] s3) fun t27 s4 =>
 some ((I .i64 0),s4)))
theorem O2 (aa:ak) (N:Nat) (a0:T) (a1:T) (s:St):aS Tryz.prog aa N Tryz.f68 [a0,a1] s=f68 aa N a0 a1 s:=by kernel_rfl
theorem Cm (d:Nat) (a0:T) (a1:T) (s:St):R (d+1) 68 [a0,a1] s=f68 (R d) 8192 a0 a1 s:=(au rfl Tryz.func68 (by kernel_rfl)).trans (O2 ..)
def f67 (aa:ak) (N:Nat) (a0:T) (a1:T) (s:St):Option (T×St) :=
 ay (aK s (ct a1)) fun t3 s1 =>
 bd (bu a0) fun t7 =>
 bd (ae 3 t7) fun t8 =>
 bd (ab t8 s1.get) fun t9 =>
 bd (aG 8 t3 s1.get) fun t10 =>
 ay (aa 110 [t9,t10] s1) fun t11 s2 =>
 bd (af .neq t11 (I .i64 0)) fun t13 =>
 br t13 (some (t11,s2))
 (bd (bu a0) fun t16 =>
 bd (ae 1 t16) fun t17 =>
 bd (ab t17 s2.get) fun t18 =>
 bd (aA t18) fun t19 =>
 bd (af .eql t19 (I .i64 2000)) fun t20 =>
 br t20 (some ((I .i64 8),s2))
 (some ((I .i64 0),s2)))
theorem O0 (aa:ak) (N:Nat) (a0:T) (a1:T) (s:St):aS Tryz.prog aa N Tryz.f67 [a0,a1] s=f67 aa N a0 a1 s:=by kernel_rfl
theorem LA (d:Nat) (a0:T) (a1:T) (s:St):R (d+1) 67 [a0,a1] s=f67 (R d) 8192 a0 a1 s:=(au rfl Tryz.func67 (by kernel_rfl)).trans (O0 ..)
def f22 (aa:ak) (N:Nat) (a0:T) (a1:T) (a2:T) (s:St):Option (T×St) :=
 bd (iC .p a0 (Z .bU)) fun t15 =>
 br t15 (some ((I .i64 10),s))
 (ay (aa 77 [a1] s) fun t18 s1 =>
 bd (ah t18 0) fun t19 =>
 bd (ah t18 1) fun t20 =>
 ay (aK s1 (ba [.int .i64 0,.int .i64 0,.int .i64 0,.int .i64 0,.int .u32 0])) fun t7 s2 =>
 ay (aw 5 t7 t19 s2) fun _ s3 =>
 bd (af .neq t20 (I .i64 0)) fun t22 =>
 br t22 (some (t20,s3))
 (bd (ae 0 t7) fun t25 =>
 bd (ab t25 s3.get) fun t26 =>
 bd (ae 1 t7) fun t27 =>
 bd (ab t27 s3.get) fun t28 =>
 bd (ae 2 t7) fun t29 =>
 bd (ab t29 s3.get) fun t30 =>
 bd (ae 3 t7) fun t31 =>
 bd (ab t31 s3.get) fun t32 =>
 bd (ae 4 t7) fun t33 =>
 bd (ab t33 s3.get) fun t34 =>
 bd (aU (aE [.int .i64 0,.int .i64 0,.int .i64 0,.int .i64 0,.int .i64 0,.int .i64 0,.int .u32 0,.str []] [(0,1,(I .i64 1)),(1,1,a2),(2,1,t26),(3,1,t28),(4,1,t30),(5,1,t32),(6,1,t34)])) fun t35 =>
 ay (aK s3 (ba [.int .i64 0,.int .i64 0,.int .i64 0,.int .i64 0,.int .i64 0,.int .i64 0,.int .u32 0,.str []])) fun t9 s4 =>
 ay (aw 8 t9 t35 s4) fun _ s5 =>
 bd (aG 8 t9 s5.get) fun t37 =>
 ay (aa 67 [a0,t37] s5) fun t38 s6 =>
 bd (af .neq t38 (I .i64 0)) fun t40 =>
 br t40 (some (t38,s6))
 (bd (ae 0 t7) fun t42 =>
 bd (ab t42 s6.get) fun t43 =>
 ay (aa 69 [t43] s6) fun t44 s7 =>
 bd (bu a0) fun t46 =>
 bd (ae 0 t46) fun t47 =>
 bd (ab t47 s7.get) fun t48 =>
 ay (aa 54 [t48,t44] s7) fun t50 s8 =>
 bd (bu a0) fun t52 =>
 bd (ae 0 t52) fun t53 =>
 bd (ab t53 s8.get) fun t54 =>
 ay (aa 12 [t54,t44,a1] s8) fun t57 s9 =>
 bd (af .neq t57 (I .i64 0)) fun t59 =>
 br t59 (some (t57,s9))
 (bd (bu a0) fun t62 =>
 bd (ae 0 t62) fun t63 =>
 bd (ab t63 s9.get) fun t64 =>
 ay (aa 47 [t64,t44] s9) fun t66 bV =>
 bd (aG 8 t9 bV.get) fun t68 =>
 ay (aa 68 [a0,t68] bV) fun t69 bK =>
 bd (af .neq t69 (I .i64 0)) fun t71 =>
 br t71 (bd (bu a0) fun t73 =>
 bd (ae 0 t73) fun t74 =>
 bd (ab t74 bK.get) fun t75 =>
 ay (aa 54 [t75,t44] bK) fun t77 cd =>
 some (t69,cd))
 (some ((I .i64 0),bK))))))
theorem OE (aa:ak) (N:Nat) (a0:T) (a1:T) (a2:T) (s:St):aS Tryz.prog aa N Tryz.f22 [a0,a1,a2] s=f22 aa N a0 a1 a2 s:=by kernel_rfl
theorem qW (d:Nat) (a0:T) (a1:T) (a2:T) (s:St):R (d+1) 22 [a0,a1,a2] s=f22 (R d) 8192 a0 a1 a2 s:=(au rfl Tryz.func22 (by kernel_rfl)).trans (OE ..)
def f19 (aa:ak) (N:Nat) (a0:T) (s:St):Option (T×St) :=
 bd (iC .p a0 (Z .bU)) fun t4 =>
 br t4 (some ((I .i64 10),s))
 (bd (bu a0) fun t6 =>
 bd (ae 0 t6) fun t7 =>
 bd (ab t7 s.get) fun t8 =>
 ay (aa 47 [t8,(Z (.str [108,111,103]))] s) fun t9 s1 =>
 bd (bu a0) fun t12 =>
 bd (ae 1 t12) fun t13 =>
 bd (ab t13 s1.get) fun t14 =>
 bd (aA t14) fun t15 =>
 bd (bu a0) fun t16 =>
 bd (ae 4 t16) fun t17 =>
 ay (aw 1 t17 t15 s1) fun _ s2 =>
 some ((I .i64 0),s2))
theorem OB (aa:ak) (N:Nat) (a0:T) (s:St):aS Tryz.prog aa N Tryz.f19 [a0] s=f19 aa N a0 s:=by kernel_rfl
theorem K9 (d:Nat) (a0:T) (s:St):R (d+1) 19 [a0] s=f19 (R d) 8192 a0 s:=(au rfl Tryz.func19 (by kernel_rfl)).trans (OB ..)
def f27 (aa:ak) (N:Nat) (a0:T) (s:St):Option (T×St) :=
 bd (iC .p a0 (Z .bU)) fun t4 =>
 br t4 (some ((Z .az),s))
 (bd (bu a0) fun t6 =>
 bd (ae 3 t6) fun t7 =>
 bd (ab t7 s.get) fun t8 =>
 ay (aa 48 [t8] s) fun t9 s1 =>
 some (t9,s1))
theorem OI (aa:ak) (N:Nat) (a0:T) (s:St):aS Tryz.prog aa N Tryz.f27 [a0] s=f27 aa N a0 s:=by kernel_rfl
theorem Lo (d:Nat) (a0:T) (s:St):R (d+1) 27 [a0] s=f27 (R d) 8192 a0 s:=(au rfl Tryz.func27 (by kernel_rfl)).trans (OI ..)
def f23 (aa:ak) (N:Nat) (a0:T) (s:St):Option (T×St) :=
 bd (iC .p a0 (Z .bU)) fun t4 =>
 br t4 (some ((Z .az),s))
 (bd (bu a0) fun t6 =>
 bd (ae 1 t6) fun t7 =>
 bd (ab t7 s.get) fun t8 =>
 ay (aa 78 [t8] s) fun t9 s1 =>
 some (t9,s1))
theorem OG (aa:ak) (N:Nat) (a0:T) (s:St):aS Tryz.prog aa N Tryz.f23 [a0] s=f23 aa N a0 s:=by kernel_rfl
theorem Ll (d:Nat) (a0:T) (s:St):R (d+1) 23 [a0] s=f23 (R d) 8192 a0 s:=(au rfl Tryz.func23 (by kernel_rfl)).trans (OG ..)
def f24 (aa:ak) (N:Nat) (a0:T) (s:St):Option (T×St) :=
 bd (iC .p a0 (Z .bU)) fun t4 =>
 br t4 (some ((I .i64 0),s))
 (bd (bu a0) fun t6 =>
 bd (ae 4 t6) fun t7 =>
 bd (ab t7 s.get) fun t8 =>
 some (t8,s))
def f32 (aa:ak) (N:Nat) (a0:T) (s:St):Option (T×St) :=
 ay (aK s (ba [.int .i64 0,.int .i64 0,.int .i64 0,.int .i64 0,.int .i64 0,.int .i64 0])) fun t2 s1 =>
 bd (iC .p a0 (Z .bU)) fun t4 =>
 br t4 (bd (aU (aE [.int .i64 0,.int .i64 0,.int .i64 0,.int .i64 0,.int .i64 0,.int .i64 0] [])) fun t5 =>
 ay (aw 6 t2 t5 s1) fun _ s2 =>
 bd (rC (aG 6 t2 s2.get) (some [])) fun l3=>bd (aQ l3) fun r4 =>
 some (r4,s2))
 (bd (bu a0) fun t7 =>
 bd (ae 3 t7) fun t8 =>
 bd (ab t8 s1.get) fun t9 =>
 ay (aa 84 [t9] s1) fun t10 s5 =>
 ay (aw 6 t2 t10 s5) fun _ s6 =>
 bd (rC (aG 6 t2 s6.get) (some [])) fun l7=>bd (aQ l7) fun r8 =>
 some (r8,s6))
def f28 (aa:ak) (N:Nat) (a0:T) (a1:T) (s:St):Option (T×St) :=
 ay (aK s (ct a1)) fun t3 s1 =>
 ay (aK s1 (ba [.int .i64 0,.int .i64 0,.int .i64 0,.int .i64 0,.az,.az])) fun t4 s2 =>
 bd (iC .p a0 (Z .bU)) fun t9 =>
 br t9 (bd (aU (aE [.int .i64 0,.int .i64 0,.int .i64 0,.int .i64 0,.az,.az] [])) fun t10 =>
 ay (aw 6 t4 t10 s2) fun _ s3 =>
 bd (rC (aG 6 t4 s3.get) (rT (I .i64 10) (some []))) fun l4=>bd (aQ l4) fun r5 =>
 some (r5,s3))
 (bd (bu a0) fun t12 =>
 bd (ae 3 t12) fun t13 =>
 bd (ab t13 s2.get) fun t14 =>
 ay (aa 48 [t14] s2) fun t15 s6 =>
 bd (rN 80 [t3] []) fun t16 =>
 ay (aa 49 [t15,t16] s6) fun t17 s7 =>
 bd (jO .not t17) fun t18 =>
 br t18 (bd (aU (aE [.int .i64 0,.int .i64 0,.int .i64 0,.int .i64 0,.az,.az] [])) fun t19 =>
 ay (aw 6 t4 t19 s7) fun _ s8 =>
 bd (rC (aG 6 t4 s8.get) (rT (I .i64 9) (some []))) fun l9=>bd (aQ l9) fun pH =>
 some (pH,s8))
 (bd (bu a0) fun t22 =>
 bd (ae 0 t22) fun t23 =>
 bd (ab t23 s7.get) fun t24 =>
 bd (ab t3 s7.get) fun t25 =>
 ay (aa 69 [t25] s7) fun t26 bK =>
 ay (aa 42 [t24,t26] bK) fun t27 cd =>
 bd (ah t27 0) fun t28 =>
 bd (ah t27 1) fun t29 =>
 ck ((decide (ab t23 bK.get=ab t23 s7.get)&&true)&&true) (bd (af .neq t29 (I .i64 0)) fun t31 =>
 br t31 (bd (aU (aE [.int .i64 0,.int .i64 0,.int .i64 0,.int .i64 0,.az,.az] [])) fun t32 =>
 ay (aw 6 t4 t32 cd) fun _ ey =>
 bd (rC (aG 6 t4 ey.get) (rT t29 (some []))) fun S4=>bd (aQ S4) fun II =>
 some (II,ey))
 (ay (aa 81 [t28] cd) fun t35 gC =>
 bd (ah t35 0) fun t36 =>
 bd (ah t35 1) fun t37 =>
 ay (aw 6 t4 t36 gC) fun _ jd =>
 bd (rC (aG 6 t4 jd.get) (rT t37 (some []))) fun l18=>bd (aQ l18) fun xp =>
 some (xp,jd)))))
end
noncomputable section
def RL (aa:ak) (N:Nat) (v:List T) (s:St):Option (JO×St) :=
 bd (aA (v.getD 0 .any)) fun t30 =>
 bd (af .lss (v.getD 6 .any) t30) fun t31 =>
 bd (gT (gd t31 true) (some (v.getD 6 .any))) fun t33 =>
 bd (gT (gd t31 true) (af .lss t33 (I .i64 10))) fun t34 =>
 bd (aC t31 t34 (B false)) fun t35 =>
 br t35 (jn (bd (av 1 (v.getD 0 .any) (v.getD 6 .any)) fun t40 =>
 bd (ab t40 s.get) fun t41 =>
 bd (aF .u64 t41) fun t42 =>
 bd (af .rem t42 (I .u64 64)) fun t43 =>
 bd (aF .i64 t43) fun t44 =>
 bd (af .add (I .i64 1) t44) fun t45 =>
 bd (af .quo t45 (I .i64 10)) fun t47 =>
 bd (af .quo t45 (I .i64 10)) fun t49 =>
 bd (af .add t49 (I .i64 1)) fun t50 =>
 bd (bB (Z (.str [48,49,50,51,52,53,54,55,56,57])) (some t47) (some t50) none) fun t51 =>
 bd (af .add (Z (.str [115,101,97,108,32])) t51) fun t52 =>
 bd (af .rem t45 (I .i64 10)) fun t54 =>
 bd (af .rem t45 (I .i64 10)) fun t56 =>
 bd (af .add t56 (I .i64 1)) fun t57 =>
 bd (bB (Z (.str [48,49,50,51,52,53,54,55,56,57])) (some t54) (some t57) none) fun t58 =>
 bd (af .add t52 t58) fun t59 =>
 bd (aU (aE [.int .i64 0,.int .i64 0,.int .i64 0,.int .i64 0,.int .i64 0,.int .i64 0,.int .u32 0,.str []] [(0,1,(I .i64 4)),(7,1,t59)])) fun t62 =>
 ay (aa 18 [(v.getD 3 .any),t62] s) fun t63 s3 =>
 bd (af .neq t63 (I .i64 0)) fun t64 =>
 br t64 (some (.ret (B false),s3))
 (ay (aK s3 (aR 1 (aE [.int .i64 0] [(0,1,t45)]))) fun t67 s4 =>
 ay (aH 1 8 (v.getD 4 .any) t67 s4) fun t68 s5 =>
 bd (av 1 (v.getD 0 .any) (v.getD 6 .any)) fun t71 =>
 bd (ab t71 s5.get) fun t72 =>
 bd (aF .u64 t72) fun t73 =>
 bd (af .quo t73 (I .u64 64)) fun t74 =>
 bd (af .rem t74 (I .u64 3)) fun t75 =>
 bd (af .eql t75 (I .u64 0)) fun t76 =>
 jn (br t76 (ay (aa 19 [(v.getD 3 .any)] s5) fun t78 s6 =>
 bd (af .neq t78 (I .i64 0)) fun t79 =>
 br t79 (some (.ret (B false),s6))
 (bd (aA t68) fun t81 =>
 some (.normal [(v.getD 0 .any),(v.getD 1 .any),(v.getD 2 .any),(v.getD 3 .any),t68,t81,(v.getD 6 .any),t45],s6)))
 (some (.normal [(v.getD 0 .any),(v.getD 1 .any),(v.getD 2 .any),(v.getD 3 .any),t68,(v.getD 5 .any),(v.getD 6 .any),t45],s5)))
 (fun v7 s8=>ay (aa 32 [(v7.getD 3 .any)] s8) fun t83 bK =>
 bd (oK none 4 t83) fun t84 =>
 bd (af .neq t84 (v7.getD 7 .any)) fun t86 =>
 bd (gT (gd t86 false) (some (v7.getD 3 .any))) fun t88 =>
 ay (gS (gd t86 false) bK (aa 24 [t88] bK)) fun t89 cd =>
 bd (gT (gd t86 false) (some (v7.getD 5 .any))) fun t90 =>
 bd (gT (gd t86 false) (af .neq t89 t90)) fun t91 =>
 bd (aC t86 (B true) t91) fun t92 =>
 br t92 (some (.ret (B false),cd))
 (some (.normal [(v7.getD 0 .any),(v7.getD 1 .any),(v7.getD 2 .any),(v7.getD 3 .any),(v7.getD 4 .any),(v7.getD 5 .any),(v7.getD 6 .any)],cd)))
 (fun i9 v7 s8=>if i9=1 then some (.normal v7,s8) else some (.exit i9 v7,s8))
 (fun pH s8=>some (.ret pH,s8))))
 (fun kI gB=>bd (af .add (kI.getD 6 .any) (I .i64 1)) fun t37 =>
 some (.normal [(kI.getD 0 .any),(kI.getD 1 .any),(kI.getD 2 .any),(kI.getD 3 .any),(kI.getD 4 .any),(kI.getD 5 .any),t37],gB))
 (fun i15 kI gB=>some (.exit i15 kI,gB))
 (fun r16 gB=>some (.ret r16,gB)))
 (some (.exit 0 [(v.getD 1 .any),(v.getD 2 .any),(v.getD 4 .any),(v.getD 5 .any)],s))
def f6 (aa:ak) (N:Nat) (a0:T) (a1:T) (s:St):Option (T×St) :=
 ay (aa 10 [(I .i64 10000)] s) fun t16 s1 =>
 ay (aa 14 [t16] s1) fun t19 s2 =>
 bd (ah t19 0) fun t20 =>
 bd (ah t19 1) fun t21 =>
 bd (af .neq t21 (I .i64 0)) fun t23 =>
 bd (gT (gd t23 false) (some t20)) fun t25 =>
 bd (gT (gd t23 false) (iC .p t25 (Z .bU))) fun t26 =>
 bd (aC t23 (B true) t26) fun t27 =>
 br t27 (some ((B false),s2))
 (jn (jn (loops (RL aa N) N [a0,a1,t16,t20,(Z .az),(I .i64 0),(I .i64 0)] s2)
 (fun js iM=>some (.normal [.any,.any,.any,.any],iM))
 (fun i19 js iM=>if i19=0 then some (.normal js,iM) else some (.exit i19 js,iM))
 (fun BF iM=>some (.ret BF,iM)))
 (fun v21 iO=>ay (aK iO (aR 1 (aE [.int .i64 0] [(0,1,(v21.getD 0 .any))]))) fun t95 kB =>
 ay (aa 25 [(v21.getD 1 .any),t95] kB) fun t96 mi =>
 ay (aa 14 [(v21.getD 1 .any)] mi) fun t99 rz =>
 bd (ah t99 0) fun t100 =>
 bd (ah t99 1) fun t101 =>
 bd (af .neq t101 (I .i64 0)) fun t103 =>
 bd (gT (gd t103 false) (some t100)) fun t105 =>
 bd (gT (gd t103 false) (iC .p t105 (Z .bU))) fun t106 =>
 bd (aC t103 (B true) t106) fun t107 =>
 br t107 (some ((B false),rz))
 (ay (aa 23 [t100] rz) fun t109 Ev =>
 bd (aA t109) fun t110 =>
 bd (af .lss t110 (v21.getD 3 .any)) fun t113 =>
 bd (gT (gd t113 false) (some t110)) fun t115 =>
 bd (gT (gd t113 false) (some (v21.getD 2 .any))) fun t116 =>
 bd (gT (gd t113 false) (aA t116)) fun t117 =>
 bd (gT (gd t113 false) (af .gtr t115 t117)) fun t118 =>
 bd (aC t113 (B true) t118) fun t119 =>
 br t119 (some ((B false),Ev))
 (ay (aa 7 [] Ev) fun t120 m6 =>
 bd (gT (gd t120 true) (some t110)) fun t122 =>
 bd (gT (gd t120 true) (af .eql t122 (I .i64 0))) fun t123 =>
 bd (gT (gd t120 true) (some t123)) fun t124 =>
 bd (gT (gd t124 true) (some t100)) fun t125 =>
 ay (gS (gd t124 true) m6 (aa 32 [t125] m6)) fun t126 qu =>
 bd (gT (gd t124 true) (oK none 4 t126)) fun t127 =>
 bd (gT (gd t124 true) (af .eql t127 (I .i64 8))) fun t128 =>
 bd (gT (gd t120 true) (aC t124 t128 (B false))) fun t129 =>
 bd (gT (gd t120 true) (some t129)) fun t130 =>
 bd (gT (gd t130 false) (some t110)) fun t131 =>
 bd (gT (gd t130 false) (af .gtr t131 (I .i64 0))) fun t132 =>
 bd (gT (gd t130 false) (some t132)) fun t133 =>
 bd (gT (gd t133 true) (some t100)) fun t134 =>
 ay (gS (gd t133 true) qu (aa 32 [t134] qu)) fun t135 xU =>
 bd (gT (gd t133 true) (oK none 4 t135)) fun t136 =>
 bd (gT (gd t133 true) (some (v21.getD 2 .any))) fun t137 =>
 bd (gT (gd t133 true) (some t110)) fun t138 =>
 bd (gT (gd t133 true) (af .sub t138 (I .i64 1))) fun t139 =>
 bd (gT (gd t133 true) (av 1 t137 t139)) fun t140 =>
 bd (gT (gd t133 true) (ab t140 xU.get)) fun t141 =>
 bd (gT (gd t133 true) (af .eql t136 t141)) fun t142 =>
 bd (gT (gd t130 false) (aC t133 t142 (B false))) fun t143 =>
 bd (gT (gd t120 true) (aC t130 (B true) t143)) fun t144 =>
 bd (aC t120 t144 (B false)) fun t145 =>
 bd (gT (gd t145 true) (some (v21.getD 0 .any))) fun t147 =>
 bd (gT (gd t145 true) (af .gtr t147 (I .i64 0))) fun t148 =>
 bd (gT (gd t145 true) (some t148)) fun t149 =>
 bd (gT (gd t149 false) (some t110)) fun t150 =>
 bd (gT (gd t149 false) (some (v21.getD 3 .any))) fun t151 =>
 bd (gT (gd t149 false) (af .eql t150 t151)) fun t152 =>
 bd (gT (gd t145 true) (aC t149 (B true) t152)) fun t153 =>
 bd (aC t145 t153 (B false)) fun t154 =>
 ck ((wq (gd t133 true) (decide (ab t140 qu.get=ab t140 xU.get))&&true)&&true) (some (t154,xU)))))
 (fun i23 v21 iO=>none)
 (fun IK iO=>some (IK,iO)))
def sB (aa:ak) (N:Nat) (v:List T) (s:St):Option (JO×St) :=
 bd (af .lss (v.getD 4 .any) (I .i64 150)) fun t33 =>
 br t33 (jn (ay (aK s (aR 2 (aE [.int .i64 0,.int .i64 0] [(0,1,(I .i64 3)),(1,1,(I .i64 4))]))) fun t39 s3 =>
 ay (aa 21 [(v.getD 4 .any),(v.getD 4 .any),t39,(Z .az)] s3) fun t40 s4 =>
 ay (aa 20 [t40] s4) fun t41 s5 =>
 bd (ah t41 0) fun t42 =>
 bd (ah t41 1) fun t43 =>
 ay (aK s5 (td t42)) fun t46 s6 =>
 ay (aa 22 [(v.getD 2 .any),t46,(I .i64 0)] s6) fun t47 s7 =>
 bd (af .eql t47 (I .i64 8)) fun t49 =>
 br t49 (some (.exit 0 [(v.getD 0 .any),(v.getD 1 .any),(v.getD 2 .any),(v.getD 3 .any)],s7))
 (bd (af .neq t47 (I .i64 0)) fun t51 =>
 br t51 (some (.ret (B false),s7))
 (bd (af .add (v.getD 3 .any) (I .i64 1)) fun t53 =>
 some (.normal [(v.getD 0 .any),(v.getD 1 .any),(v.getD 2 .any),t53,(v.getD 4 .any)],s7))))
 (fun v8 s9=>bd (af .add (v8.getD 4 .any) (I .i64 1)) fun t35 =>
 some (.normal [(v8.getD 0 .any),(v8.getD 1 .any),(v8.getD 2 .any),(v8.getD 3 .any),t35],s9))
 (fun i10 v8 s9=>some (.exit i10 v8,s9))
 (fun Tn s9=>some (.ret Tn,s9)))
 (some (.exit 0 [(v.getD 0 .any),(v.getD 1 .any),(v.getD 2 .any),(v.getD 3 .any)],s))
def f5 (aa:ak) (N:Nat) (a0:T) (s:St):Option (T×St) :=
 bd (aF .u64 a0) fun t15 =>
 bd (af .rem t15 (I .u64 1800)) fun t16 =>
 bd (aF .i64 t16) fun t17 =>
 bd (af .add (I .i64 200) t17) fun t18 =>
 ay (aa 10 [t18] s) fun t20 s1 =>
 ay (aa 14 [t20] s1) fun t23 s2 =>
 bd (ah t23 0) fun t24 =>
 bd (ah t23 1) fun t25 =>
 bd (af .neq t25 (I .i64 0)) fun t27 =>
 bd (gT (gd t27 false) (some t24)) fun t29 =>
 bd (gT (gd t27 false) (iC .p t29 (Z .bU))) fun t30 =>
 bd (aC t27 (B true) t30) fun t31 =>
 br t31 (some ((B false),s2))
 (jn (jn (loops (sB aa N) N [t18,t20,t24,(I .i64 0),(I .i64 0)] s2)
 (fun v12 ey=>some (.normal [.any,.any,.any,.any],ey))
 (fun i14 v12 ey=>if i14=0 then some (.normal v12,ey) else some (.exit i14 v12,ey))
 (fun II ey=>some (.ret II,ey)))
 (fun gO jd=>ay (aa 19 [(gO.getD 2 .any)] jd) fun t55 oF =>
 bd (af .neq t55 (I .i64 0)) fun t56 =>
 bd (gT (gd t56 false) (some (gO.getD 2 .any))) fun t58 =>
 ay (gS (gd t56 false) oF (aa 27 [t58] oF)) fun t59 kK =>
 bd (gT (gd t56 false) (aA t59)) fun t60 =>
 bd (gT (gd t56 false) (some (gO.getD 3 .any))) fun t61 =>
 bd (gT (gd t56 false) (af .neq t60 t61)) fun t62 =>
 bd (aC t56 (B true) t62) fun t63 =>
 bd (gT (gd t63 false) (some (gO.getD 1 .any))) fun t65 =>
 ay (gS (gd t63 false) kK (aa 30 [t65] kK)) fun t66 iO =>
 bd (gT (gd t63 false) (some (gO.getD 0 .any))) fun t67 =>
 bd (gT (gd t63 false) (af .gtr t66 t67)) fun t68 =>
 bd (aC t63 (B true) t68) fun t69 =>
 br t69 (some ((B false),iO))
 (ay (aa 25 [(gO.getD 1 .any),(Z .az)] iO) fun t71 mI =>
 ay (aa 14 [(gO.getD 1 .any)] mI) fun t74 I8 =>
 bd (ah t74 0) fun t75 =>
 bd (ah t74 1) fun t76 =>
 ay (aa 7 [] I8) fun t77 kB =>
 bd (gT (gd t77 true) (some t76)) fun t79 =>
 bd (gT (gd t77 true) (af .eql t79 (I .i64 0))) fun t80 =>
 bd (aC t77 t80 (B false)) fun t81 =>
 bd (gT (gd t81 true) (some t75)) fun t83 =>
 bd (gT (gd t81 true) (Eh .p t83 (Z .bU))) fun t84 =>
 bd (aC t81 t84 (B false)) fun t85 =>
 bd (gT (gd t85 true) (some t75)) fun t87 =>
 ay (gS (gd t85 true) kB (aa 27 [t87] kB)) fun t88 mi =>
 bd (gT (gd t85 true) (aA t88)) fun t89 =>
 bd (gT (gd t85 true) (some (gO.getD 3 .any))) fun t90 =>
 bd (gT (gd t85 true) (af .eql t89 t90)) fun t91 =>
 bd (aC t85 t91 (B false)) fun t92 =>
 bd (gT (gd t92 true) (some (gO.getD 3 .any))) fun t94 =>
 bd (gT (gd t92 true) (af .eql t94 (I .i64 0))) fun t95 =>
 bd (gT (gd t92 true) (some t95)) fun t96 =>
 bd (gT (gd t96 false) (some (gO.getD 3 .any))) fun t97 =>
 bd (gT (gd t96 false) (af .geq t97 (I .i64 150))) fun t98 =>
 bd (gT (gd t92 true) (aC t96 (B true) t98)) fun t99 =>
 bd (gT (gd t92 true) (some t99)) fun t100 =>
 bd (gT (gd t100 false) (some t75)) fun t101 =>
 ay (gS (gd t100 false) mi (aa 23 [t101] mi)) fun t102 rz =>
 bd (gT (gd t100 false) (aA t102)) fun t103 =>
 bd (gT (gd t100 false) (some (gO.getD 3 .any))) fun t104 =>
 bd (gT (gd t100 false) (af .eql t103 t104)) fun t105 =>
 bd (gT (gd t92 true) (aC t100 (B true) t105)) fun t106 =>
 bd (aC t92 t106 (B false)) fun t107 =>
 some (t107,rz)))
 (fun i18 gO jd=>none)
 (fun xp jd=>some (xp,jd)))
theorem RJ (aa:ak) (N:Nat) (a0:T) (s:St):aS Tryz.prog aa N Tryz.f5 [a0] s=f5 aa N a0 s:=by kernel_rfl
theorem OZ (d:Nat) (a0:T) (s:St):R (d+1) 5 [a0] s=f5 (R d) 8192 a0 s:=(au rfl Tryz.func5 (by kernel_rfl)).trans (RJ ..)
end
noncomputable section
def RM (aa:ak) (N:Nat) (v:List T) (s:St):Option (JO×St) :=
 bd (aA (v.getD 0 .any)) fun t14 =>
 bd (af .lss (v.getD 6 .any) t14) fun t15 =>
 bd (gT (gd t15 true) (some (v.getD 6 .any))) fun t17 =>
 bd (gT (gd t15 true) (af .lss t17 (I .i64 40))) fun t18 =>
 bd (aC t15 t18 (B false)) fun t19 =>
 br t19 (jn (bd (av 1 (v.getD 0 .any) (v.getD 6 .any)) fun t24 =>
 bd (ab t24 s.get) fun t25 =>
 bd (aF .u64 t25) fun t26 =>
 jn (bd (af .rem t26 (I .u64 8)) fun t57 =>
 bd (af .eql t57 (I .u64 7)) fun t58 =>
 jn (br t58 (bd (af .add (v.getD 3 .any) (I .i64 1)) fun t60 =>
 bd (aU (aE [.int .i64 0,.int .i64 0,.int .i64 0,.int .i64 0,.int .i64 0,.int .i64 0,.int .u32 0,.str []] [(0,1,(I .i64 3)),(1,1,t60)])) fun t63 =>
 ay (aK s (aR 1 (aE [.int .i64 0,.int .i64 0,.int .i64 0,.int .i64 0,.int .i64 0,.int .i64 0,.int .u32 0,.str []] [(0,8,t63)]))) fun t64 s1 =>
 ay (aH 8 72 (v.getD 1 .any) t64 s1) fun t65 s2 =>
 some (.normal [(v.getD 0 .any),t65,(v.getD 2 .any),t60,(v.getD 4 .any),(v.getD 5 .any),(v.getD 6 .any)],s2))
 (bd (af .rem t26 (I .u64 8)) fun t68 =>
 bd (af .eql t68 (I .u64 6)) fun t69 =>
 jn (br t69 (ay (aK s (aR 3 (aE [.str [],.str [],.str []] [(0,1,(Z (.str [49]))),(1,1,(Z (.str [57]))),(2,1,(Z (.str [51,51])))]))) fun t72 s3 =>
 bd (af .quo t26 (I .u64 8)) fun t74 =>
 bd (af .rem t74 (I .u64 3)) fun t75 =>
 bd (av 1 t72 t75) fun t76 =>
 bd (ab t76 s3.get) fun t77 =>
 bd (af .add (Z (.str [115,101,97,108,32])) t77) fun t78 =>
 bd (aU (aE [.int .i64 0,.int .i64 0,.int .i64 0,.int .i64 0,.int .i64 0,.int .i64 0,.int .u32 0,.str []] [(0,1,(I .i64 4)),(1,1,(v.getD 3 .any)),(7,1,t78)])) fun t79 =>
 ay (aK s3 (aR 1 (aE [.int .i64 0,.int .i64 0,.int .i64 0,.int .i64 0,.int .i64 0,.int .i64 0,.int .u32 0,.str []] [(0,8,t79)]))) fun t80 s4 =>
 ay (aH 8 72 (v.getD 1 .any) t80 s4) fun t81 s5 =>
 some (.normal [(v.getD 0 .any),t81,(v.getD 2 .any),(v.getD 3 .any),(v.getD 4 .any),(v.getD 5 .any),(v.getD 6 .any)],s5))
 (bd (af .rem t26 (I .u64 8)) fun t84 =>
 bd (af .gtr t84 (I .u64 3)) fun t85 =>
 bd (gT (gd t85 true) (some (v.getD 2 .any))) fun t87 =>
 bd (gT (gd t85 true) (aA t87)) fun t88 =>
 bd (gT (gd t85 true) (af .gtr t88 (I .i64 0))) fun t89 =>
 bd (aC t85 t89 (B false)) fun t90 =>
 jn (br t90 (bd (af .quo t26 (I .u64 8)) fun t92 =>
 bd (aA (v.getD 2 .any)) fun t94 =>
 bd (aF .u64 t94) fun t95 =>
 bd (af .rem t92 t95) fun t96 =>
 bd (aF .i64 t96) fun t97 =>
 bd (av 1 (v.getD 2 .any) t97) fun t102 =>
 bd (ab t102 s.get) fun t103 =>
 bd (aU (aE [.int .i64 0,.int .i64 0,.int .i64 0,.int .i64 0,.int .i64 0,.int .i64 0,.int .u32 0,.str []] [(0,1,(I .i64 2)),(1,1,(v.getD 3 .any)),(2,1,t103)])) fun t104 =>
 ay (aK s (aR 1 (aE [.int .i64 0,.int .i64 0,.int .i64 0,.int .i64 0,.int .i64 0,.int .i64 0,.int .u32 0,.str []] [(0,8,t104)]))) fun t105 s6 =>
 ay (aH 8 72 (v.getD 1 .any) t105 s6) fun t106 s7 =>
 bd (ax 1 (v.getD 2 .any) none (some t97) (some t97)) fun t110 =>
 bd (af .add t97 (I .i64 1)) fun t113 =>
 bd (ax 1 (v.getD 2 .any) (some t113) none none) fun t114 =>
 ay (aH 1 8 t110 t114 s7) fun t115 s8 =>
 some (.normal [(v.getD 0 .any),t106,t115,(v.getD 3 .any),(v.getD 4 .any),(v.getD 5 .any),(v.getD 6 .any)],s8))
 (bd (af .add (v.getD 4 .any) (I .i64 1)) fun t28 =>
 bd (af .add (v.getD 5 .any) (I .i64 1)) fun t30 =>
 bd (af .quo t26 (I .u64 8)) fun t32 =>
 bd (af .rem t32 (I .u64 30)) fun t33 =>
 bd (aF .i64 t33) fun t34 =>
 bd (af .add t30 t34) fun t35 =>
 bd (af .quo t26 (I .u64 8)) fun t40 =>
 bd (af .rem t40 (I .u64 4)) fun t41 =>
 bd (aF .i64 t41) fun t42 =>
 bd (aF .u32 t26) fun t46 =>
 bd (aU (aE [.int .i64 0,.int .i64 0,.int .i64 0,.int .i64 0,.int .i64 0,.int .i64 0,.int .u32 0,.str []] [(0,1,(I .i64 1)),(1,1,(v.getD 3 .any)),(2,1,t28),(3,1,t42),(4,1,(v.getD 5 .any)),(5,1,t35),(6,1,t46)])) fun t47 =>
 ay (aK s (aR 1 (aE [.int .i64 0,.int .i64 0,.int .i64 0,.int .i64 0,.int .i64 0,.int .i64 0,.int .u32 0,.str []] [(0,8,t47)]))) fun t48 s9 =>
 ay (aH 8 72 (v.getD 1 .any) t48 s9) fun t49 bV =>
 ay (aK bV (aR 1 (aE [.int .i64 0] [(0,1,t28)]))) fun t52 bK =>
 ay (aH 1 8 (v.getD 2 .any) t52 bK) fun t53 cd =>
 some (.normal [(v.getD 0 .any),t49,t53,(v.getD 3 .any),t28,t35,(v.getD 6 .any)],cd)))
 (fun kI gB=>some (.normal [(kI.getD 0 .any),(kI.getD 1 .any),(kI.getD 2 .any),(kI.getD 3 .any),(kI.getD 4 .any),(kI.getD 5 .any),(kI.getD 6 .any)],gB))
 (fun i15 kI gB=>some (.exit i15 kI,gB))
 (fun r16 gB=>some (.ret r16,gB))))
 (fun js iM=>some (.normal [(js.getD 0 .any),(js.getD 1 .any),(js.getD 2 .any),(js.getD 3 .any),(js.getD 4 .any),(js.getD 5 .any),(js.getD 6 .any)],iM))
 (fun i19 js iM=>some (.exit i19 js,iM))
 (fun BF iM=>some (.ret BF,iM))))
 (fun v21 iO=>some (.normal [(v21.getD 0 .any),(v21.getD 1 .any),(v21.getD 2 .any),(v21.getD 3 .any),(v21.getD 4 .any),(v21.getD 5 .any),(v21.getD 6 .any)],iO))
 (fun i23 v21 iO=>if i23=2 then some (.normal v21,iO) else some (.exit i23 v21,iO))
 (fun IK iO=>some (.ret IK,iO)))
 (fun v25 mi=>some (.normal [(v25.getD 0 .any),(v25.getD 1 .any),(v25.getD 2 .any),(v25.getD 3 .any),(v25.getD 4 .any),(v25.getD 5 .any),(v25.getD 6 .any)],mi))
 (fun i27 v25 mi=>if i27=1 then some (.normal v25,mi) else some (.exit i27 v25,mi))
 (fun Nc mi=>some (.ret Nc,mi)))
 (fun v29 qu=>bd (af .add (v29.getD 6 .any) (I .i64 1)) fun t21 =>
 some (.normal [(v29.getD 0 .any),(v29.getD 1 .any),(v29.getD 2 .any),(v29.getD 3 .any),(v29.getD 4 .any),(v29.getD 5 .any),t21],qu))
 (fun i31 v29 qu=>some (.exit i31 v29,qu))
 (fun r32 qu=>some (.ret r32,qu)))
 (some (.exit 0 [(v.getD 1 .any)],s))
def f9 (aa:ak) (N:Nat) (a0:T) (s:St):Option (T×St) :=
 jn (jn (loops (RM aa N) N [a0,(Z .az),(Z .az),(I .i64 0),(I .i64 0),(I .i64 0),(I .i64 0)] s)
 (fun v33 E2=>some (.normal [.any],E2))
 (fun i35 v33 E2=>if i35=0 then some (.normal v33,E2) else some (.exit i35 v33,E2))
 (fun r36 E2=>some (.ret r36,E2)))
 (fun v37 Qo=>some ((v37.getD 0 .any),Qo))
 (fun i39 v37 Qo=>none)
 (fun Xt Qo=>some (Xt,Qo))
end
noncomputable section
def f196 (aa:ak) (N:Nat) (a0:T) (s:St):Option (T×St) :=
 bd (af .lss a0 (I .i64 0)) fun t4 =>
 br t4 (bd (jO .xor a0) fun t6 =>
 bd (aF .u64 t6) fun t7 =>
 bd (af .shl t7 (I .u64 1)) fun t8 =>
 bd (af .or t8 (I .u64 1)) fun t9 =>
 some (t9,s))
 (bd (aF .u64 a0) fun t11 =>
 bd (af .shl t11 (I .u64 1)) fun t12 =>
 some (t12,s))
theorem K6 (aa:ak) (N:Nat) (a0:T) (s:St):aS Tryz.prog aa N Tryz.f196 [a0] s=f196 aa N a0 s:=by kernel_rfl
theorem GO (d:Nat) (a0:T) (s:St):R (d+1) 196 [a0] s=f196 (R d) 8192 a0 s:=(au rfl Tryz.func196 (by kernel_rfl)).trans (K6 ..)
def f154 (aa:ak) (N:Nat) (a0:T) (s:St):Option (T×St) :=
 bd (af .and a0 (I .u64 1)) fun t4 =>
 bd (af .eql t4 (I .u64 1)) fun t5 =>
 br t5 (bd (af .shr a0 (I .u64 1)) fun t7 =>
 bd (aF .i64 t7) fun t8 =>
 bd (jO .xor t8) fun t9 =>
 some (t9,s))
 (bd (af .shr a0 (I .u64 1)) fun t11 =>
 bd (aF .i64 t11) fun t12 =>
 some (t12,s))
theorem KC (aa:ak) (N:Nat) (a0:T) (s:St):aS Tryz.prog aa N Tryz.f154 [a0] s=f154 aa N a0 s:=by kernel_rfl
theorem Gt (d:Nat) (a0:T) (s:St):R (d+1) 154 [a0] s=f154 (R d) 8192 a0 s:=(au rfl Tryz.func154 (by kernel_rfl)).trans (KC ..)
def lT (aa:ak) (N:Nat) (v:List T) (s:St):Option (JO×St) :=
 bd (af .lss (v.getD 3 .any) (v.getD 2 .any)) fun t9 =>
 br t9 (jn (bd (av 2 (v.getD 1 .any) (v.getD 3 .any)) fun t10 =>
 bd (aG 2 t10 s.get) fun t11 =>
 ay (aK s (ba [.int .i64 0,.int .i64 0])) fun t5 s1 =>
 ay (aw 2 t5 t11 s1) fun _ s2 =>
 bd (ae 0 t5) fun t12 =>
 bd (ab t12 s2.get) fun t13 =>
 bd (af .leq t13 (v.getD 0 .any)) fun t15 =>
 bd (gT (gd t15 false) (ae 0 t5)) fun t17 =>
 bd (gT (gd t15 false) (ab t17 s2.get)) fun t18 =>
 bd (gT (gd t15 false) (af .gtr t18 (I .i64 1099511627776))) fun t19 =>
 bd (aC t15 (B true) t19) fun t20 =>
 br t20 (some (.ret (B false),s2))
 (bd (ae 0 t5) fun t21 =>
 bd (ab t21 s2.get) fun t22 =>
 some (.normal [t22,(v.getD 1 .any),(v.getD 2 .any),(v.getD 3 .any)],s2)))
 (fun v3 s4=>bd (af .add (v3.getD 3 .any) (I .i64 1)) fun t23 =>
 some (.normal [(v3.getD 0 .any),(v3.getD 1 .any),(v3.getD 2 .any),t23],s4))
 (fun i5 v3 s4=>some (.exit i5 v3,s4))
 (fun r6 s4=>some (.ret r6,s4)))
 (some (.exit 0 [],s))
def f195 (aa:ak) (N:Nat) (a0:T) (s:St):Option (T×St) :=
 bd (aA a0) fun t7 =>
 jn (jn (loops (lT aa N) N [(I .i64 (-1)),a0,t7,(I .i64 0)] s)
 (fun v7 s8=>some (.normal [],s8))
 (fun i9 v7 s8=>if i9=0 then some (.normal v7,s8) else some (.exit i9 v7,s8))
 (fun pH s8=>some (.ret pH,s8)))
 (fun v11 cd=>some ((B true),cd))
 (fun i13 v11 cd=>none)
 (fun xo cd=>some (xo,cd))
theorem K5 (aa:ak) (N:Nat) (a0:T) (s:St):aS Tryz.prog aa N Tryz.f195 [a0] s=f195 aa N a0 s:=by kernel_rfl
theorem GN (d:Nat) (a0:T) (s:St):R (d+1) 195 [a0] s=f195 (R d) 8192 a0 s:=(au rfl Tryz.func195 (by kernel_rfl)).trans (K5 ..)
def lS (aa:ak) (N:Nat) (v:List T) (s:St):Option (JO×St) :=
 bd (af .lss (v.getD 5 .any) (v.getD 4 .any)) fun t24 =>
 br t24 (jn (bd (av 2 (v.getD 3 .any) (v.getD 5 .any)) fun t26 =>
 bd (aG 2 t26 s.get) fun t27 =>
 ay (aK s (ba [.int .i64 0,.int .i64 0])) fun t7 s4 =>
 ay (aw 2 t7 t27 s4) fun _ s5 =>
 bd (af .eql (v.getD 5 .any) (I .i64 0)) fun t29 =>
 br t29 (bd (ae 0 t7) fun t31 =>
 bd (ab t31 s5.get) fun t32 =>
 bd (aF .u64 t32) fun t33 =>
 ay (aa 159 [t33] s5) fun t34 s6 =>
 ay (aH 1 1 (v.getD 1 .any) t34 s6) fun t35 s7 =>
 bd (ae 1 t7) fun t36 =>
 bd (ab t36 s7.get) fun t37 =>
 ay (aa 196 [t37] s7) fun t38 s8 =>
 ay (aa 159 [t38] s8) fun t39 s9 =>
 ay (aH 1 1 t35 t39 s9) fun t40 bV =>
 ck ((decide (ab t36 s5.get=ab t36 s7.get)&&(decide (ab t36 s6.get=ab t36 s7.get)&&true))&&true) (some (.normal [(v.getD 0 .any),t40,(v.getD 2 .any),(v.getD 3 .any),(v.getD 4 .any),(v.getD 5 .any)],bV)))
 (bd (ae 0 t7) fun t41 =>
 bd (ab t41 s5.get) fun t42 =>
 bd (af .sub (v.getD 5 .any) (I .i64 1)) fun t45 =>
 bd (av 2 (v.getD 0 .any) t45) fun t46 =>
 bd (ae 0 t46) fun t47 =>
 bd (ab t47 s5.get) fun t48 =>
 bd (af .sub t42 t48) fun t49 =>
 bd (af .sub t49 (v.getD 2 .any)) fun t53 =>
 ay (aa 196 [t53] s5) fun t54 bK =>
 ay (aa 159 [t54] bK) fun t55 cd =>
 ay (aH 1 1 (v.getD 1 .any) t55 cd) fun t56 ey =>
 bd (ae 1 t7) fun t57 =>
 bd (ab t57 ey.get) fun t58 =>
 bd (af .sub (v.getD 5 .any) (I .i64 1)) fun t61 =>
 bd (av 2 (v.getD 0 .any) t61) fun t62 =>
 bd (ae 1 t62) fun t63 =>
 bd (ab t63 ey.get) fun t64 =>
 bd (af .sub t58 t64) fun t65 =>
 ay (aa 196 [t65] ey) fun t66 gB =>
 ay (aa 159 [t66] gB) fun t67 gH =>
 ay (aH 1 1 t56 t67 gH) fun t68 gC =>
 ck ((decide (ab t57 s5.get=ab t57 ey.get)&&(decide (ab t57 bK.get=ab t57 ey.get)&&(decide (ab t57 cd.get=ab t57 ey.get)&&true)))&&((decide (ab t63 s5.get=ab t63 ey.get)&&(decide (ab t63 bK.get=ab t63 ey.get)&&(decide (ab t63 cd.get=ab t63 ey.get)&&true)))&&true)) (some (.normal [(v.getD 0 .any),t68,t49,(v.getD 3 .any),(v.getD 4 .any),(v.getD 5 .any)],gC))))
 (fun js iM=>bd (af .add (js.getD 5 .any) (I .i64 1)) fun t70 =>
 some (.normal [(js.getD 0 .any),(js.getD 1 .any),(js.getD 2 .any),(js.getD 3 .any),(js.getD 4 .any),t70],iM))
 (fun i19 js iM=>some (.exit i19 js,iM))
 (fun BF iM=>some (.ret BF,iM)))
 (some (.exit 0 [(v.getD 1 .any)],s))
def f155 (aa:ak) (N:Nat) (a0:T) (s:St):Option (T×St) :=
 ay (aa 195 [a0] s) fun t10 s1 =>
 bd (jO .not t10) fun t11 =>
 bd (gT (gd t11 false) (some a0)) fun t13 =>
 bd (gT (gd t11 false) (aA t13)) fun t14 =>
 bd (gT (gd t11 false) (af .gtr t14 (I .i64 64))) fun t15 =>
 bd (aC t11 (B true) t15) fun t16 =>
 br t16 (bd (aQ [(Z .az),(I .i64 1)]) fun r2 =>
 some (r2,s1))
 (bd (aA a0) fun t18 =>
 bd (aF .u64 t18) fun t19 =>
 ay (aa 159 [t19] s1) fun t20 s3 =>
 bd (aA a0) fun t22 =>
 jn (jn (loops (lS aa N) N [a0,t20,(I .i64 0),a0,t22,(I .i64 0)] s3)
 (fun v21 iO=>some (.normal [.any],iO))
 (fun i23 v21 iO=>if i23=0 then some (.normal v21,iO) else some (.exit i23 v21,iO))
 (fun IK iO=>some (.ret IK,iO)))
 (fun v25 mi=>bd (aQ [(v25.getD 0 .any),(I .i64 0)]) fun Xo =>
 some (Xo,mi))
 (fun i27 v25 mi=>none)
 (fun Nc mi=>some (Nc,mi)))
theorem KD (aa:ak) (N:Nat) (a0:T) (s:St):aS Tryz.prog aa N Tryz.f155 [a0] s=f155 aa N a0 s:=by kernel_rfl
theorem yB (d:Nat) (a0:T) (s:St):R (d+1) 155 [a0] s=f155 (R d) 8192 a0 s:=(au rfl Tryz.func155 (by kernel_rfl)).trans (KD ..)
def iW (aa:ak) (N:Nat) (v:List T) (s:St):Option (JO×St) :=
 bd (af .lss (v.getD 5 .any) (v.getD 4 .any)) fun t18 =>
 br t18 (jn (bd (bu (v.getD 1 .any)) fun t21 =>
 bd (ae 2 t21) fun t22 =>
 bd (ab t22 s.get) fun t23 =>
 br t23 (some (.exit 0 [(v.getD 0 .any),(v.getD 1 .any),(v.getD 2 .any)],s))
 (bd (af .eql (v.getD 5 .any) (I .i64 0)) fun t25 =>
 br t25 (ay (aa 153 [(v.getD 1 .any)] s) fun t27 s3 =>
 bd (aF .i64 t27) fun t28 =>
 ay (aa 153 [(v.getD 1 .any)] s3) fun t32 s4 =>
 ay (aa 154 [t32] s4) fun t33 s5 =>
 bd (aU (aE [.int .i64 0,.int .i64 0] [(0,1,t28),(1,1,t33)])) fun t34 =>
 ay (aK s5 (aR 1 (aE [.int .i64 0,.int .i64 0] [(0,2,t34)]))) fun t35 s6 =>
 ay (aH 2 16 (v.getD 2 .any) t35 s6) fun t36 s7 =>
 some (.normal [(v.getD 0 .any),(v.getD 1 .any),t36,(v.getD 3 .any),(v.getD 4 .any),(v.getD 5 .any)],s7))
 (ay (aa 153 [(v.getD 1 .any)] s) fun t39 s8 =>
 ay (aa 154 [t39] s8) fun t40 s9 =>
 bd (af .add (v.getD 3 .any) t40) fun t41 =>
 bd (af .sub (v.getD 5 .any) (I .i64 1)) fun t44 =>
 bd (av 2 (v.getD 2 .any) t44) fun t45 =>
 bd (aG 2 t45 s9.get) fun t46 =>
 ay (aK s9 (ba [.int .i64 0,.int .i64 0])) fun t9 bV =>
 ay (aw 2 t9 t46 bV) fun _ bK =>
 bd (ae 0 t9) fun t48 =>
 bd (ab t48 bK.get) fun t49 =>
 bd (af .add t49 t41) fun t51 =>
 bd (ae 1 t9) fun t52 =>
 bd (ab t52 bK.get) fun t53 =>
 ay (aa 153 [(v.getD 1 .any)] bK) fun t55 cd =>
 ay (aa 154 [t55] cd) fun t56 ey =>
 bd (af .add t53 t56) fun t57 =>
 bd (aU (aE [.int .i64 0,.int .i64 0] [(0,1,t51),(1,1,t57)])) fun t58 =>
 ay (aK ey (aR 1 (aE [.int .i64 0,.int .i64 0] [(0,2,t58)]))) fun t59 gB =>
 ay (aH 2 16 (v.getD 2 .any) t59 gB) fun t60 gH =>
 ck ((decide (ab t48 (cq 9 cd.get (Bw 12 ey.size (aR 1 (aE [.int .i64 0,.int .i64 0] [(0,2,t58)])) []))=ab t48 bK.get)&&(decide (ab t48 (cq 10 ey.get (Bw 12 ey.size (aR 1 (aE [.int .i64 0,.int .i64 0] [(0,2,t58)])) []))=ab t48 bK.get)&&true))&&((decide (ab t52 (cq 9 cd.get (Bw 12 ey.size (aR 1 (aE [.int .i64 0,.int .i64 0] [(0,2,t58)])) []))=ab t52 bK.get)&&(decide (ab t52 (cq 10 ey.get (Bw 12 ey.size (aR 1 (aE [.int .i64 0,.int .i64 0] [(0,2,t58)])) []))=ab t52 bK.get)&&true))&&true)) (some (.normal [(v.getD 0 .any),(v.getD 1 .any),t60,t41,(v.getD 4 .any),(v.getD 5 .any)],gH)))))
 (fun gO jd=>bd (af .add (gO.getD 5 .any) (I .i64 1)) fun t61 =>
 some (.normal [(gO.getD 0 .any),(gO.getD 1 .any),(gO.getD 2 .any),(gO.getD 3 .any),(gO.getD 4 .any),t61],jd))
 (fun i18 gO jd=>some (.exit i18 gO,jd))
 (fun xp jd=>some (.ret xp,jd)))
 (some (.exit 0 [(v.getD 0 .any),(v.getD 1 .any),(v.getD 2 .any)],s))
def f119 (aa:ak) (N:Nat) (a0:T) (s:St):Option (T×St) :=
 bd (aU (aE [.az,.int .i64 0,.bool false] [(0,1,a0)])) fun t13 =>
 ay (aK s (ct t13)) fun t14 s1 =>
 ay (aa 152 [t14,(I .i64 64)] s1) fun t16 s2 =>
 jn (jn (loops (iW aa N) N [a0,t14,(Z .az),(I .i64 0),t16,(I .i64 0)] s2)
 (fun v20 kK=>some (.normal [.any,.any,.any],kK))
 (fun i22 v20 kK=>if i22=0 then some (.normal v20,kK) else some (.exit i22 v20,kK))
 (fun Ql kK=>some (.ret Ql,kK)))
 (fun v24 kB=>ay (aa 155 [(v24.getD 2 .any)] kB) fun t64 Ev =>
 bd (ah t64 0) fun t65 =>
 bd (ah t64 1) fun t66 =>
 bd (bu (v24.getD 1 .any)) fun t68 =>
 bd (ae 2 t68) fun t69 =>
 bd (ab t69 Ev.get) fun t70 =>
 bd (gT (gd t70 false) (some t66)) fun t72 =>
 bd (gT (gd t70 false) (af .neq t72 (I .i64 0))) fun t73 =>
 bd (aC t70 (B true) t73) fun t74 =>
 bd (gT (gd t74 false) (some t65)) fun t76 =>
 bd (gT (gd t74 false) (some (v24.getD 0 .any))) fun t77 =>
 ay (gS (gd t74 false) Ev (aa 122 [t76,t77] Ev)) fun t78 m6 =>
 bd (gT (gd t74 false) (jO .not t78)) fun t79 =>
 bd (aC t74 (B true) t79) fun t80 =>
 br t80 (bd (aQ [(Z .az),(I .i64 2)]) fun r30 =>
 some (r30,m6))
 (bd (aQ [(v24.getD 2 .any),(I .i64 0)]) fun IL =>
 some (IL,m6)))
 (fun i26 v24 kB=>none)
 (fun To kB=>some (To,kB))
theorem Kk (aa:ak) (N:Nat) (a0:T) (s:St):aS Tryz.prog aa N Tryz.f119 [a0] s=f119 aa N a0 s:=by kernel_rfl
theorem Ge (d:Nat) (a0:T) (s:St):R (d+1) 119 [a0] s=f119 (R d) 8192 a0 s:=(au rfl Tryz.func119 (by kernel_rfl)).trans (Kk ..)
def f153 (aa:ak) (N:Nat) (a0:T) (s:St):Option (T×St) :=
 bd (bu a0) fun t8 =>
 bd (ae 0 t8) fun t9 =>
 bd (ab t9 s.get) fun t10 =>
 bd (bu a0) fun t12 =>
 bd (ae 1 t12) fun t13 =>
 bd (ab t13 s.get) fun t14 =>
 ay (aa 118 [t10,t14] s) fun t15 s1 =>
 bd (ah t15 0) fun t16 =>
 bd (ah t15 1) fun t17 =>
 bd (ah t15 2) fun t18 =>
 bd (af .neq t18 (I .i64 0)) fun t20 =>
 jn (br t20 (bd (bu a0) fun t22 =>
 bd (ae 2 t22) fun t23 =>
 ay (aw 1 t23 (B true) s1) fun _ s2 =>
 some (.normal [a0,t16,t17],s2))
 (some (.normal [a0,t16,t17],s1)))
 (fun v3 s4=>bd (bu (v3.getD 0 .any)) fun t26 =>
 bd (ae 1 t26) fun t27 =>
 ay (aw 1 t27 (v3.getD 2 .any) s4) fun _ s7 =>
 some ((v3.getD 1 .any),s7))
 (fun i5 v3 s4=>none)
 (fun r6 s4=>some (r6,s4))
theorem KA (aa:ak) (N:Nat) (a0:T) (s:St):aS Tryz.prog aa N Tryz.f153 [a0] s=f153 aa N a0 s:=by kernel_rfl
theorem Gs (d:Nat) (a0:T) (s:St):R (d+1) 153 [a0] s=f153 (R d) 8192 a0 s:=(au rfl Tryz.func153 (by kernel_rfl)).trans (KA ..)
def f152 (aa:ak) (N:Nat) (a0:T) (a1:T) (s:St):Option (T×St) :=
 ay (aa 153 [a0] s) fun t7 s1 =>
 bd (aF .u64 a1) fun t10 =>
 bd (af .gtr t7 t10) fun t11 =>
 br t11 (bd (bu a0) fun t13 =>
 bd (ae 2 t13) fun t14 =>
 ay (aw 1 t14 (B true) s1) fun _ s2 =>
 some ((I .i64 0),s2))
 (bd (aF .i64 t7) fun t16 =>
 some (t16,s1))
theorem Kz (aa:ak) (N:Nat) (a0:T) (a1:T) (s:St):aS Tryz.prog aa N Tryz.f152 [a0,a1] s=f152 aa N a0 a1 s:=by kernel_rfl
theorem Gq (d:Nat) (a0:T) (a1:T) (s:St):R (d+1) 152 [a0,a1] s=f152 (R d) 8192 a0 a1 s:=(au rfl Tryz.func152 (by kernel_rfl)).trans (Kz ..)
def f199 (aa:ak) (N:Nat) (a0:T) (a1:T) (a2:T) (a3:T) (s:St):Option (T×St) :=
 bd (af .geq a0 (I .i64 1)) fun t10 =>
 bd (gT (gd t10 true) (some a0)) fun t12 =>
 bd (gT (gd t10 true) (af .leq t12 (I .i64 1073741824))) fun t13 =>
 bd (aC t10 t13 (B false)) fun t14 =>
 bd (gT (gd t14 true) (some a1)) fun t16 =>
 bd (gT (gd t14 true) (af .geq t16 (I .i64 0))) fun t17 =>
 bd (aC t14 t17 (B false)) fun t18 =>
 bd (gT (gd t18 true) (some a1)) fun t20 =>
 bd (gT (gd t18 true) (af .lss t20 (I .i64 4))) fun t21 =>
 bd (aC t18 t21 (B false)) fun t22 =>
 bd (gT (gd t22 true) (some a2)) fun t24 =>
 bd (gT (gd t22 true) (af .geq t24 (I .i64 0))) fun t25 =>
 bd (aC t22 t25 (B false)) fun t26 =>
 bd (gT (gd t26 true) (some a2)) fun t28 =>
 bd (gT (gd t26 true) (some a3)) fun t29 =>
 bd (gT (gd t26 true) (af .lss t28 t29)) fun t30 =>
 bd (aC t26 t30 (B false)) fun t31 =>
 bd (gT (gd t31 true) (some a3)) fun t33 =>
 bd (gT (gd t31 true) (af .leq t33 (I .i64 1099511627776))) fun t34 =>
 bd (aC t31 t34 (B false)) fun t35 =>
 some (t35,s)
theorem K8 (aa:ak) (N:Nat) (a0:T) (a1:T) (a2:T) (a3:T) (s:St):aS Tryz.prog aa N Tryz.f199 [a0,a1,a2,a3] s=f199 aa N a0 a1 a2 a3 s:=by kernel_rfl
theorem GP (d:Nat) (a0:T) (a1:T) (a2:T) (a3:T) (s:St):R (d+1) 199 [a0,a1,a2,a3] s=f199 (R d) 8192 a0 a1 a2 a3 s:=(au rfl Tryz.func199 (by kernel_rfl)).trans (K8 ..)
def f158 (aa:ak) (N:Nat) (a0:T) (s:St):Option (T×St) :=
 ay (aK s (ct a0)) fun t1 s1 =>
 bd (ae 0 t1) fun t5 =>
 bd (ab t5 s1.get) fun t6 =>
 bd (ae 1 t1) fun t7 =>
 bd (ab t7 s1.get) fun t8 =>
 bd (ae 2 t1) fun t9 =>
 bd (ab t9 s1.get) fun t10 =>
 bd (ae 3 t1) fun t11 =>
 bd (ab t11 s1.get) fun t12 =>
 ay (aa 199 [t6,t8,t10,t12] s1) fun t13 s2 =>
 bd (jO .not t13) fun t14 =>
 br t14 (some ((B false),s2))
 (bd (ae 1 t1) fun t15 =>
 bd (ab t15 s2.get) fun t16 =>
 bd (af .eql t16 (I .i64 0)) fun t17 =>
 br t17 (bd (ae 4 t1) fun t18 =>
 bd (ab t18 s2.get) fun t19 =>
 bd (aA t19) fun t20 =>
 bd (ae 5 t1) fun t21 =>
 bd (ab t21 s2.get) fun t22 =>
 bd (aA t22) fun t23 =>
 bd (af .eql t23 (I .i64 0)) fun t24 =>
 bd (gT (gd t24 true) (some t20)) fun t26 =>
 bd (gT (gd t24 true) (af .geq t26 (I .i64 1))) fun t27 =>
 bd (aC t24 t27 (B false)) fun t28 =>
 bd (gT (gd t28 true) (some t20)) fun t30 =>
 bd (gT (gd t28 true) (af .leq t30 (I .i64 64))) fun t31 =>
 bd (aC t28 t31 (B false)) fun t32 =>
 bd (gT (gd t32 true) (ae 4 t1)) fun t34 =>
 bd (gT (gd t32 true) (ab t34 s2.get)) fun t35 =>
 ay (gS (gd t32 true) s2 (aa 195 [t35] s2)) fun t36 s3 =>
 bd (aC t32 t36 (B false)) fun t37 =>
 bd (gT (gd t37 true) (ae 4 t1)) fun t39 =>
 bd (gT (gd t37 true) (ab t39 s3.get)) fun t40 =>
 bd (gT (gd t37 true) (av 2 t40 (I .i64 0))) fun t41 =>
 bd (gT (gd t37 true) (ae 0 t41)) fun t42 =>
 bd (gT (gd t37 true) (ab t42 s3.get)) fun t43 =>
 bd (gT (gd t37 true) (ae 2 t1)) fun t44 =>
 bd (gT (gd t37 true) (ab t44 s3.get)) fun t45 =>
 bd (gT (gd t37 true) (af .geq t43 t45)) fun t46 =>
 bd (aC t37 t46 (B false)) fun t47 =>
 bd (gT (gd t47 true) (ae 4 t1)) fun t49 =>
 bd (gT (gd t47 true) (ab t49 s3.get)) fun t50 =>
 bd (gT (gd t47 true) (some t20)) fun t51 =>
 bd (gT (gd t47 true) (af .sub t51 (I .i64 1))) fun t52 =>
 bd (gT (gd t47 true) (av 2 t50 t52)) fun t53 =>
 bd (gT (gd t47 true) (ae 0 t53)) fun t54 =>
 bd (gT (gd t47 true) (ab t54 s3.get)) fun t55 =>
 bd (gT (gd t47 true) (ae 3 t1)) fun t56 =>
 bd (gT (gd t47 true) (ab t56 s3.get)) fun t57 =>
 bd (gT (gd t47 true) (af .lss t55 t57)) fun t58 =>
 bd (aC t47 t58 (B false)) fun t59 =>
 some (t59,s3))
 (bd (ae 5 t1) fun t60 =>
 bd (ab t60 s2.get) fun t61 =>
 bd (aA t61) fun t62 =>
 bd (ae 4 t1) fun t63 =>
 bd (ab t63 s2.get) fun t64 =>
 bd (aA t64) fun t65 =>
 bd (af .eql t65 (I .i64 0)) fun t66 =>
 bd (gT (gd t66 true) (some t62)) fun t68 =>
 bd (gT (gd t66 true) (af .geq t68 (I .i64 1))) fun t69 =>
 bd (aC t66 t69 (B false)) fun t70 =>
 bd (gT (gd t70 true) (some t62)) fun t72 =>
 bd (gT (gd t70 true) (af .leq t72 (I .i64 64))) fun t73 =>
 bd (aC t70 t73 (B false)) fun t74 =>
 bd (gT (gd t74 true) (ae 5 t1)) fun t76 =>
 bd (gT (gd t74 true) (ab t76 s2.get)) fun t77 =>
 bd (gT (gd t74 true) (ae 1 t1)) fun t78 =>
 bd (gT (gd t74 true) (ab t78 s2.get)) fun t79 =>
 ay (gS (gd t74 true) s2 (aa 197 [t77,t79] s2)) fun t80 s4 =>
 bd (aC t74 t80 (B false)) fun t81 =>
 bd (gT (gd t81 true) (ae 5 t1)) fun t83 =>
 bd (gT (gd t81 true) (ab t83 s4.get)) fun t84 =>
 bd (gT (gd t81 true) (av 7 t84 (I .i64 0))) fun t85 =>
 bd (gT (gd t81 true) (ae 0 t85)) fun t86 =>
 bd (gT (gd t81 true) (ab t86 s4.get)) fun t87 =>
 bd (gT (gd t81 true) (ae 2 t1)) fun t88 =>
 bd (gT (gd t81 true) (ab t88 s4.get)) fun t89 =>
 bd (gT (gd t81 true) (ae 1 t1)) fun t90 =>
 bd (gT (gd t81 true) (ab t90 s4.get)) fun t91 =>
 ay (gS (gd t81 true) s4 (aa 200 [t89,t91] s4)) fun t92 s5 =>
 bd (gT (gd t81 true) (af .geq t87 t92)) fun t93 =>
 bd (aC t81 t93 (B false)) fun t94 =>
 bd (gT (gd t94 true) (ae 5 t1)) fun t96 =>
 bd (gT (gd t94 true) (ab t96 s5.get)) fun t97 =>
 bd (gT (gd t94 true) (some t62)) fun t98 =>
 bd (gT (gd t94 true) (af .sub t98 (I .i64 1))) fun t99 =>
 bd (gT (gd t94 true) (av 7 t97 t99)) fun t100 =>
 bd (gT (gd t94 true) (ae 0 t100)) fun t101 =>
 bd (gT (gd t94 true) (ab t101 s5.get)) fun t102 =>
 bd (gT (gd t94 true) (ae 3 t1)) fun t103 =>
 bd (gT (gd t94 true) (ab t103 s5.get)) fun t104 =>
 bd (gT (gd t94 true) (af .lss t102 t104)) fun t105 =>
 bd (aC t94 t105 (B false)) fun t106 =>
 ck ((wq (gd t81 true) (decide (ab t83 s5.get=ab t83 s4.get))&&true)&&((wq (gd t81 true) (decide (ab t86 s5.get=ab t86 s4.get))&&true)&&true)) (some (t106,s5))))
theorem KE (aa:ak) (N:Nat) (a0:T) (s:St):aS Tryz.prog aa N Tryz.f158 [a0] s=f158 aa N a0 s:=by kernel_rfl
theorem Gu (d:Nat) (a0:T) (s:St):R (d+1) 158 [a0] s=f158 (R d) 8192 a0 s:=(au rfl Tryz.func158 (by kernel_rfl)).trans (KE ..)
def f160 (aa:ak) (N:Nat) (a0:T) (s:St):Option (T×St) :=
 bd (aF .u8 a0) fun t4 =>
 bd (af .shr a0 (I .u64 8)) fun t6 =>
 bd (aF .u8 t6) fun t7 =>
 bd (af .shr a0 (I .u64 16)) fun t9 =>
 bd (aF .u8 t9) fun t10 =>
 bd (af .shr a0 (I .u64 24)) fun t12 =>
 bd (aF .u8 t12) fun t13 =>
 ay (aK s (aR 4 (aE [.int .u8 0,.int .u8 0,.int .u8 0,.int .u8 0] [(0,1,t4),(1,1,t7),(2,1,t10),(3,1,t13)]))) fun t14 s1 =>
 some (t14,s1)
theorem KJ (aa:ak) (N:Nat) (a0:T) (s:St):aS Tryz.prog aa N Tryz.f160 [a0] s=f160 aa N a0 s:=by kernel_rfl
theorem Gw (d:Nat) (a0:T) (s:St):R (d+1) 160 [a0] s=f160 (R d) 8192 a0 s:=(au rfl Tryz.func160 (by kernel_rfl)).trans (KJ ..)
def ny (aa:ak) (N:Nat) (v:List T) (s:St):Option (JO×St) :=
 bd (af .lss (v.getD 4 .any) (v.getD 3 .any)) fun t31 =>
 br t31 (jn (bd (av 1 (v.getD 2 .any) (v.getD 4 .any)) fun t32 =>
 bd (ab t32 s.get) fun t33 =>
 ay (aa 159 [t33] s) fun t36 s6 =>
 ay (aH 1 1 (v.getD 1 .any) t36 s6) fun t37 s7 =>
 some (.normal [(v.getD 0 .any),t37,(v.getD 2 .any),(v.getD 3 .any),(v.getD 4 .any)],s7))
 (fun v8 s9=>bd (af .add (v8.getD 4 .any) (I .i64 1)) fun t38 =>
 some (.normal [(v8.getD 0 .any),(v8.getD 1 .any),(v8.getD 2 .any),(v8.getD 3 .any),t38],s9))
 (fun i10 v8 s9=>some (.exit i10 v8,s9))
 (fun Tn s9=>some (.ret Tn,s9)))
 (some (.exit 0 [(v.getD 0 .any),(v.getD 1 .any)],s))
def f121 (aa:ak) (N:Nat) (a0:T) (s:St):Option (T×St) :=
 ay (aK s (ct a0)) fun t1 s1 =>
 bd (aG 6 t1 s1.get) fun t9 =>
 ay (aa 158 [t9] s1) fun t10 s2 =>
 bd (jO .not t10) fun t11 =>
 br t11 (bd (aQ [(Z .az),(I .i64 1)]) fun r3 =>
 some (r3,s2))
 (ay (aK s2 (aR 2 (aE [.int .u8 0,.int .u8 0] [(0,1,(I .u8 84)),(1,1,(I .u8 75))]))) fun t12 s4 =>
 bd (ae 0 t1) fun t13 =>
 bd (ab t13 s4.get) fun t14 =>
 bd (aF .u64 t14) fun t15 =>
 bd (ae 1 t1) fun t16 =>
 bd (ab t16 s4.get) fun t17 =>
 bd (aF .u64 t17) fun t18 =>
 bd (ae 2 t1) fun t19 =>
 bd (ab t19 s4.get) fun t20 =>
 bd (aF .u64 t20) fun t21 =>
 bd (ae 3 t1) fun t22 =>
 bd (ab t22 s4.get) fun t23 =>
 bd (ae 2 t1) fun t24 =>
 bd (ab t24 s4.get) fun t25 =>
 bd (af .sub t23 t25) fun t26 =>
 bd (aF .u64 t26) fun t27 =>
 ay (aK s4 (aR 4 (aE [.int .u64 0,.int .u64 0,.int .u64 0,.int .u64 0] [(0,1,t15),(1,1,t18),(2,1,t21),(3,1,t27)]))) fun t28 s5 =>
 bd (aA t28) fun t29 =>
 jn (jn (loops (ny aa N) N [t1,t12,t28,t29,(I .i64 0)] s5)
 (fun v12 ey=>some (.normal [.any,.any],ey))
 (fun i14 v12 ey=>if i14=0 then some (.normal v12,ey) else some (.exit i14 v12,ey))
 (fun II ey=>some (.ret II,ey)))
 (fun gO jd=>bd (ae 4 (gO.getD 0 .any)) fun t40 =>
 bd (ab t40 jd.get) fun t41 =>
 ay (aa 155 [t41] jd) fun t42 oF =>
 bd (ah t42 0) fun t43 =>
 bd (ah t42 1) fun t44 =>
 bd (ae 1 (gO.getD 0 .any)) fun t45 =>
 bd (ab t45 oF.get) fun t46 =>
 bd (af .gtr t46 (I .i64 0)) fun t47 =>
 jn (br t47 (bd (ae 5 (gO.getD 0 .any)) fun t49 =>
 bd (ab t49 oF.get) fun t50 =>
 bd (ae 1 (gO.getD 0 .any)) fun t51 =>
 bd (ab t51 oF.get) fun t52 =>
 ay (aa 157 [t50,t52] oF) fun t53 kK =>
 bd (ah t53 0) fun t54 =>
 bd (ah t53 1) fun t55 =>
 some (.normal [(gO.getD 1 .any),t54,t55],kK))
 (some (.normal [(gO.getD 1 .any),t43,t44],oF)))
 (fun v22 mI=>bd (af .neq (v22.getD 2 .any) (I .i64 0)) fun t57 =>
 br t57 (bd (aQ [(Z .az),(v22.getD 2 .any)]) fun Xn =>
 some (Xn,mI))
 (ay (aH 1 1 (v22.getD 0 .any) (v22.getD 1 .any) mI) fun t61 rz =>
 ay (aa 161 [t61] rz) fun t64 Ev =>
 ay (aa 160 [t64] Ev) fun t65 m6 =>
 ay (aH 1 1 t61 t65 m6) fun t66 qu =>
 bd (aA t66) fun t68 =>
 bd (af .gtr t68 (I .i64 4000)) fun t69 =>
 br t69 (bd (aQ [(Z .az),(I .i64 8)]) fun IL =>
 some (IL,qu))
 (bd (aQ [t66,(I .i64 0)]) fun r32 =>
 some (r32,qu))))
 (fun i24 v22 mI=>none)
 (fun Nb mI=>some (Nb,mI)))
 (fun i18 gO jd=>none)
 (fun xp jd=>some (xp,jd)))
theorem Kl (aa:ak) (N:Nat) (a0:T) (s:St):aS Tryz.prog aa N Tryz.f121 [a0] s=f121 aa N a0 s:=by kernel_rfl
theorem Gf (d:Nat) (a0:T) (s:St):R (d+1) 121 [a0] s=f121 (R d) 8192 a0 s:=(au rfl Tryz.func121 (by kernel_rfl)).trans (Kl ..)
def sD (aa:ak) (N:Nat) (v:List T) (s:St):Option (JO×St) :=
 bd (af .lss (v.getD 5 .any) (I .i64 4)) fun t34 =>
 br t34 (jn (bd (ax 1 (v.getD 0 .any) none (some (v.getD 2 .any)) none) fun t39 =>
 ay (aa 118 [t39,(v.getD 4 .any)] s) fun t41 s6 =>
 bd (ah t41 0) fun t42 =>
 bd (ah t41 1) fun t43 =>
 bd (ah t41 2) fun t44 =>
 bd (af .neq t44 (I .i64 0)) fun t46 =>
 bd (gT (gd t46 false) (some t42)) fun t48 =>
 bd (gT (gd t46 false) (af .gtr t48 (I .u64 1099511627776))) fun t49 =>
 bd (aC t46 (B true) t49) fun t50 =>
 br t50 (bd (aU (aE [.int .i64 0,.int .i64 0,.int .i64 0,.int .i64 0,.az,.az] [])) fun t51 =>
 ay (aw 6 (v.getD 1 .any) t51 s6) fun _ s7 =>
 bd (rC (aG 6 (v.getD 1 .any) s7.get) (rT (I .i64 2) (some []))) fun l8=>bd (aQ l8) fun r9 =>
 some (.ret r9,s7))
 (bd (bj 4 1 (v.getD 3 .any) (v.getD 5 .any)) fun t55 =>
 ay (aw 1 t55 t42 s6) fun _ bV =>
 some (.normal [(v.getD 0 .any),(v.getD 1 .any),(v.getD 2 .any),(v.getD 3 .any),t43,(v.getD 5 .any)],bV)))
 (fun v11 cd=>bd (af .add (v11.getD 5 .any) (I .i64 1)) fun t56 =>
 some (.normal [(v11.getD 0 .any),(v11.getD 1 .any),(v11.getD 2 .any),(v11.getD 3 .any),(v11.getD 4 .any),t56],cd))
 (fun i13 v11 cd=>some (.exit i13 v11,cd))
 (fun xo cd=>some (.ret xo,cd)))
 (some (.exit 0 [(v.getD 0 .any),(v.getD 1 .any),(v.getD 2 .any),(v.getD 3 .any),(v.getD 4 .any)],s))
def f81 (aa:ak) (N:Nat) (a0:T) (s:St):Option (T×St) :=
 ay (aK s (ba [.int .i64 0,.int .i64 0,.int .i64 0,.int .i64 0,.az,.az])) fun t2 s1 =>
 bd (aA a0) fun t16 =>
 bd (af .sub t16 (I .i64 4)) fun t17 =>
 bd (af .lss t17 (I .i64 2)) fun t19 =>
 bd (gT (gd t19 false) (some a0)) fun t21 =>
 bd (gT (gd t19 false) (av 1 t21 (I .i64 0))) fun t22 =>
 bd (gT (gd t19 false) (ab t22 s1.get)) fun t23 =>
 bd (gT (gd t19 false) (af .neq t23 (I .u8 84))) fun t24 =>
 bd (aC t19 (B true) t24) fun t25 =>
 bd (gT (gd t25 false) (some a0)) fun t27 =>
 bd (gT (gd t25 false) (av 1 t27 (I .i64 1))) fun t28 =>
 bd (gT (gd t25 false) (ab t28 s1.get)) fun t29 =>
 bd (gT (gd t25 false) (af .neq t29 (I .u8 75))) fun t30 =>
 bd (aC t25 (B true) t30) fun t31 =>
 br t31 (bd (aU (aE [.int .i64 0,.int .i64 0,.int .i64 0,.int .i64 0,.az,.az] [])) fun t32 =>
 ay (aw 6 t2 t32 s1) fun _ s2 =>
 bd (rC (aG 6 t2 s2.get) (rT (I .i64 2) (some []))) fun l3=>bd (aQ l3) fun r4 =>
 some (r4,s2))
 (ay (aK s1 (ba [.int .u64 0,.int .u64 0,.int .u64 0,.int .u64 0])) fun t5 s5 =>
 jn (jn (loops (sD aa N) N [a0,t2,t17,t5,(I .i64 2),(I .i64 0)] s5)
 (fun ox gC=>some (.normal [.any,.any,.any,.any,.any],gC))
 (fun i17 ox gC=>if i17=0 then some (.normal ox,gC) else some (.exit i17 ox,gC))
 (fun Er gC=>some (.ret Er,gC)))
 (fun xG oF=>bd (bj 4 1 (xG.getD 3 .any) (I .i64 0)) fun t57 =>
 bd (ab t57 oF.get) fun t58 =>
 bd (aF .i64 t58) fun t59 =>
 bd (bj 4 1 (xG.getD 3 .any) (I .i64 1)) fun t60 =>
 bd (ab t60 oF.get) fun t61 =>
 bd (aF .i64 t61) fun t62 =>
 bd (bj 4 1 (xG.getD 3 .any) (I .i64 2)) fun t63 =>
 bd (ab t63 oF.get) fun t64 =>
 bd (aF .i64 t64) fun t65 =>
 bd (bj 4 1 (xG.getD 3 .any) (I .i64 2)) fun t66 =>
 bd (ab t66 oF.get) fun t67 =>
 bd (bj 4 1 (xG.getD 3 .any) (I .i64 3)) fun t68 =>
 bd (ab t68 oF.get) fun t69 =>
 bd (af .add t67 t69) fun t70 =>
 bd (aF .i64 t70) fun t71 =>
 bd (aU (aE [.int .i64 0,.int .i64 0,.int .i64 0,.int .i64 0,.az,.az] [(0,1,t59),(1,1,t62),(2,1,t65),(3,1,t71)])) fun t72 =>
 ay (aK oF (ba [.int .i64 0,.int .i64 0,.int .i64 0,.int .i64 0,.az,.az])) fun t11 mI =>
 ay (aw 6 t11 t72 mI) fun _ I8 =>
 bd (ae 1 t11) fun t73 =>
 bd (ab t73 I8.get) fun t74 =>
 bd (af .eql t74 (I .i64 0)) fun t75 =>
 jn (br t75 (bd (ax 1 (xG.getD 0 .any) (some (xG.getD 4 .any)) (some (xG.getD 2 .any)) none) fun t80 =>
 ay (aa 119 [t80] I8) fun t81 kB =>
 bd (ah t81 0) fun t82 =>
 bd (ah t81 1) fun t83 =>
 bd (ae 4 t11) fun t84 =>
 ay (aw 1 t84 t82 kB) fun _ mi =>
 some (.normal [(xG.getD 0 .any),(xG.getD 1 .any),t11,t83],mi))
 (bd (ax 1 (xG.getD 0 .any) (some (xG.getD 4 .any)) (some (xG.getD 2 .any)) none) fun t89 =>
 bd (ae 1 t11) fun t90 =>
 bd (ab t90 I8.get) fun t91 =>
 ay (aa 120 [t89,t91] I8) fun t92 rz =>
 bd (ah t92 0) fun t93 =>
 bd (ah t92 1) fun t94 =>
 bd (ae 5 t11) fun t95 =>
 ay (aw 1 t95 t93 rz) fun _ Ev =>
 some (.normal [(xG.getD 0 .any),(xG.getD 1 .any),t11,t94],Ev)))
 (fun v29 qu=>bd (aG 6 (v29.getD 2 .any) qu.get) fun t97 =>
 ay (aa 121 [t97] qu) fun t98 rA =>
 bd (ah t98 0) fun t99 =>
 bd (ah t98 1) fun t100 =>
 bd (af .neq (v29.getD 3 .any) (I .i64 0)) fun t102 =>
 bd (gT (gd t102 false) (some t100)) fun t104 =>
 bd (gT (gd t102 false) (af .neq t104 (I .i64 0))) fun t105 =>
 bd (aC t102 (B true) t105) fun t106 =>
 bd (gT (gd t106 false) (some t99)) fun t108 =>
 bd (gT (gd t106 false) (some (v29.getD 0 .any))) fun t109 =>
 ay (gS (gd t106 false) rA (aa 122 [t108,t109] rA)) fun t110 E2 =>
 bd (gT (gd t106 false) (jO .not t110)) fun t111 =>
 bd (aC t106 (B true) t111) fun t112 =>
 br t112 (bd (aU (aE [.int .i64 0,.int .i64 0,.int .i64 0,.int .i64 0,.az,.az] [])) fun t113 =>
 ay (aw 6 (v29.getD 1 .any) t113 E2) fun _ CX =>
 bd (rC (aG 6 (v29.getD 1 .any) CX.get) (rT (I .i64 2) (some []))) fun l36=>bd (aQ l36) fun Tp =>
 some (Tp,CX))
 (bd (aG 6 (v29.getD 2 .any) E2.get) fun t114 =>
 ay (aw 6 (v29.getD 1 .any) t114 E2) fun _ Qo =>
 bd (rC (aG 6 (v29.getD 1 .any) Qo.get) (rT (I .i64 0) (some []))) fun l39=>bd (aQ l39) fun Xt =>
 some (Xt,Qo)))
 (fun i31 v29 qu=>none)
 (fun r32 qu=>some (r32,qu)))
 (fun i21 xG oF=>none)
 (fun Xm oF=>some (Xm,oF)))
theorem Pc (aa:ak) (N:Nat) (a0:T) (s:St):aS Tryz.prog aa N Tryz.f81 [a0] s=f81 aa N a0 s:=by kernel_rfl
theorem LP (d:Nat) (a0:T) (s:St):R (d+1) 81 [a0] s=f81 (R d) 8192 a0 s:=(au rfl Tryz.func81 (by kernel_rfl)).trans (Pc ..)
def f77 (aa:ak) (N:Nat) (a0:T) (s:St):Option (T×St) :=
 ay (aK s (ba [.int .i64 0,.int .i64 0,.int .i64 0,.int .i64 0,.int .u32 0])) fun t2 s1 =>
 ay (aa 81 [a0] s1) fun t9 s2 =>
 bd (ah t9 0) fun t10 =>
 bd (ah t9 1) fun t11 =>
 ay (aK s2 (ba [.int .i64 0,.int .i64 0,.int .i64 0,.int .i64 0,.az,.az])) fun t4 s3 =>
 ay (aw 6 t4 t10 s3) fun _ s4 =>
 bd (af .neq t11 (I .i64 0)) fun t13 =>
 br t13 (bd (aU (aE [.int .i64 0,.int .i64 0,.int .i64 0,.int .i64 0,.int .u32 0] [])) fun t14 =>
 ay (aw 5 t2 t14 s4) fun _ s5 =>
 bd (rC (aG 5 t2 s5.get) (rT t11 (some []))) fun l6=>bd (aQ l6) fun r7 =>
 some (r7,s5))
 (bd (aA a0) fun t18 =>
 bd (af .sub t18 (I .i64 4)) fun t19 =>
 bd (ax 1 a0 (some t19) none none) fun t20 =>
 bd (ae 0 t4) fun t21 =>
 bd (ab t21 s4.get) fun t22 =>
 bd (ae 1 t4) fun t23 =>
 bd (ab t23 s4.get) fun t24 =>
 bd (ae 2 t4) fun t25 =>
 bd (ab t25 s4.get) fun t26 =>
 bd (ae 3 t4) fun t27 =>
 bd (ab t27 s4.get) fun t28 =>
 bd (av 1 t20 (I .i64 0)) fun t30 =>
 bd (ab t30 s4.get) fun t31 =>
 bd (aF .u32 t31) fun t32 =>
 bd (av 1 t20 (I .i64 1)) fun t34 =>
 bd (ab t34 s4.get) fun t35 =>
 bd (aF .u32 t35) fun t36 =>
 bd (af .shl t36 (I .u64 8)) fun t37 =>
 bd (af .or t32 t37) fun t38 =>
 bd (av 1 t20 (I .i64 2)) fun t40 =>
 bd (ab t40 s4.get) fun t41 =>
 bd (aF .u32 t41) fun t42 =>
 bd (af .shl t42 (I .u64 16)) fun t43 =>
 bd (af .or t38 t43) fun t44 =>
 bd (av 1 t20 (I .i64 3)) fun t46 =>
 bd (ab t46 s4.get) fun t47 =>
 bd (aF .u32 t47) fun t48 =>
 bd (af .shl t48 (I .u64 24)) fun t49 =>
 bd (af .or t44 t49) fun t50 =>
 bd (aU (aE [.int .i64 0,.int .i64 0,.int .i64 0,.int .i64 0,.int .u32 0] [(0,1,t22),(1,1,t24),(2,1,t26),(3,1,t28),(4,1,t50)])) fun t51 =>
 ay (aw 5 t2 t51 s4) fun _ s8 =>
 bd (rC (aG 5 t2 s8.get) (rT (I .i64 0) (some []))) fun l9=>bd (aQ l9) fun pH =>
 some (pH,s8))
theorem O9 (aa:ak) (N:Nat) (a0:T) (s:St):aS Tryz.prog aa N Tryz.f77 [a0] s=f77 aa N a0 s:=by kernel_rfl
theorem LJ (d:Nat) (a0:T) (s:St):R (d+1) 77 [a0] s=f77 (R d) 8192 a0 s:=(au rfl Tryz.func77 (by kernel_rfl)).trans (O9 ..)
end
end Go.Proofs.YtbohejffelipoaaGreatDoor
