/-
  Several texts in one: what functions that the law reaches compute. No conditions but those named in each line.
-/
import Derived.Test.YtbohejffelipoaaGreatDoorAbsE
import Derived.Test.YtbohejffelipoaaGreatDoorAbsD
import Derived.Test.YtbohejffelipoaaGreatDoorRows
namespace Go.Proofs.YtbohejffelipoaaGreatDoor
open Go Go.Abs Go.Abs.F
set_option linter.unusedVariables false
noncomputable section
def ir:List (S×V)->Option (List (List UInt8))
 | []=>some []
 | (.str n,_)::r=>match ir r with
   | some l=>match Nat.ble n.length 1000 && !l.contains n with
     | true=>some (n::l)
     | false=>none
   | none=>none
 | _::_=>none
def qQ:List UInt8->List UInt8->Bool
 | [],_=>true
 | _::_,[]=>false
 | a::r,b::t=>match Nat.blt a.toNat b.toNat with
   | true=>true
   | false=>match Nat.beq a.toNat b.toNat with
     | true=>qQ r t
     | false=>false
def Fh (n:List UInt8):List (List UInt8)->List (List UInt8)
 | []=>[n]
 | m::r=>match qQ n m with
   | true=>n::m::r
   | false=>m::Fh n r
def cC:List (List UInt8)->List (List UInt8)
 | []=>[]
 | n::r=>Fh n (cC r)
def fc:ak:=fun f ts σ=>match Nat.beq f 29 with
 | false=>none
 | true=>match ts with
   | [.v (.s (.ptr i o))]=>match σ.get i with
     | some (.cells _ vs)=>match vs[o+1]? with
       | some (.map m)=>match σ.get m with
         | some (.map es)=>match Nat.ble es.length 1000,ir es with
           | true,some []=>some (Z .ay,σ)
           | true,some (k::l)=>some (Z (.sl σ.size 0 (l.length+1) (.grown 1)),σ.push (.cells false ((cC (k::l)).map S.str)))
           | _,_=>none
         | _=>none
       | _=>none
     | _=>none
   | _=>none
abbrev Ps:List Nat:=[247,248]
abbrev Ar:ak:=Bp (Jb Ps 246) (tT 181)
abbrev DQ:ak:=Bp Ar (fZ (eS Tryz.prog 64 nD 8) [167])
abbrev Vn:ak:=Bp (th 136 5 [.int .i64 0,.int .i64 0,.int .i64 0,.int .i64 0,.int .u32 0]) (oD 135 5)
abbrev oP:ak:=fZ (eS Tryz.prog 64 nD 8) [167]
abbrev jA:List Nat:=[90,69,52]
abbrev Vm:ak:=Bp (fZ (eS Tryz.prog 64 oP 16) jA) Vn
abbrev JP:ak:=Bp fc (Bp Vm DQ)
abbrev dC:ak:=Bp (nc 7 true) JP
abbrev R (d:Nat):ak:=eS Tryz.prog 8192 dC d
end
noncomputable section
theorem mJ {f:Nat} {ts:List T} {σ:St} (h:(!Nat.beq f 7 && !Nat.beq f 29 && !Nat.beq f 90 && !Nat.beq f 69 && !Nat.beq f 52 && !Nat.beq f 136 && !Nat.beq f 135)=true):dC f ts σ=DQ f ts σ:=by
 simp only [Bool.and_eq_true,Bool.not_eq_true'] at h
 obtain ⟨⟨⟨⟨⟨⟨h1,h2⟩,h3⟩,h31⟩,Rb⟩,h4⟩,h5⟩:=h
 have e1:nc 7 true f ts σ=none:=by simp [nc,h1]
 have e2:fc f ts σ=none:=by simp only [fc,h2]
 have e3:fZ (eS Tryz.prog 64 oP 16) jA f ts σ=none:=by
  have:jA.contains f=false:=by
   have hn:f≠90:=fun e=>by subst e;cases h3
   have Nv:f≠69:=fun e=>by subst e;cases h31
   have Ww:f≠52:=fun e=>by subst e;cases Rb
   simp [jA,hn,Nv,Ww]
  simp only [fZ,this,Bool.false_and]
 have e4:th 136 5 [.int .i64 0,.int .i64 0,.int .i64 0,.int .i64 0,.int .u32 0] f ts σ=none:=by simp only [th,h4]
 have e5:oD 135 5 f ts σ=none:=by simp only [oD,h5]
 exact (bG e1).trans ((bG e2).trans (bG ((bG e3).trans ((bG e4).trans e5))))
theorem DR {f:Nat} {l:Bs} {c:UInt8} {σ:St} (h:(Ps.contains f && !Nat.beq f 7)=true):dC f [Z (.str l),Z (.str [c])] σ=some (I .i64 (nM c l 0),σ):=by
 simp only [Bool.and_eq_true,Bool.not_eq_true'] at h
 have hf:f=247\/f=248:=by simpa [Ps] using h.1
 rw [mJ (by rcases hf with rfl | rfl<;>decide)]
 exact ew (ew (RS h.1))
theorem JQ {l:Bs} {c:UInt8} {σ:St}:dC 246 [Z (.str l),Z (.str [c])] σ=some (I .i64 (eP c l:Nat),σ):=by
 rw [mJ (by decide)]
 exact ew (ew (NQ (by decide)))
theorem Fp {x:S} {l:List Bs} {sep:Bs} {σ:St} (h:RT σ x l) (hb:cT l+l.length*sep.length<=1000000) (hl:l.length<=1000000):dC 181 [Z x,Z (.str sep)] σ=some (Z (.str (gX sep l)),σ):=by
 rw [mJ (by decide)]
 have e3:Jb Ps 246 181 [Z x,Z (.str sep)] σ=none:=by
  have h1:Ps.contains 181=false:=by decide
  have h2:Nat.beq 181 246=false:=by decide
  simp only [Jb,h1,h2]
 exact ew ((bG e3).trans (Jd h hb hl))
theorem JS (σ:St):dC 167 [Z (.str [48,49,50,51,52,53,54,55,56,57])] σ=some (.eF [.agg ((List.range 256).map fun c=>S.bool (Nat.ble 48 c&&Nat.ble c 57)),.s (.bool true)],σ):=by
 rw [mJ (by decide)]
 have h0:Ar 167 [Z (.str [48,49,50,51,52,53,54,55,56,57])] σ=none:=by
  have h1:Ps.contains 167=false:=by decide
  have h2:Nat.beq 167 246=false:=by decide
  have h3:Nat.beq 167 181=false:=by decide
  simp only [Ar,Bp,Jb,h1,h2,tT,h3]
 exact (bG h0).trans (iG (by decide) (by kernel_rfl) (by kernel_rfl))
theorem kI (d:Nat) (s:St):R (d+1) 7 [] s=some (B true,s):=dU rfl
theorem ug {σ:St} {ts:List T}:dC 135 ts σ=oD 135 5 135 ts σ:=by
 have e1:nc 7 true 135 ts σ=none:=by
  have:Nat.beq 135 7=false:=by decide
  simp only [nc,this,Bool.false_and]
 have e2:fc 135 ts σ=none:=by
  have:Nat.beq 135 29=false:=by decide
  simp only [fc,this]
 have e3:fZ (eS Tryz.prog 64 oP 16) jA 135 ts σ=none:=by
  have:jA.contains 135=false:=by decide
  simp only [fZ,this,Bool.false_and]
 have e4:th 136 5 [.int .i64 0,.int .i64 0,.int .i64 0,.int .i64 0,.int .u32 0] 135 ts σ=none:=by
  have:Nat.beq 135 136=false:=by decide
  simp only [th,this]
 have e5:DQ 135 ts σ=none:=by
  have h1:Ps.contains 135=false:=by decide
  have h2:Nat.beq 135 246=false:=by decide
  have h3:Nat.beq 135 181=false:=by decide
  have h4:[167].contains 135=false:=by decide
  have h5:Ar 135 ts σ=none:=by
   simp only [Ar,Bp,Jb,h1,h2,tT,h3]
  exact (bG h5).trans (by simp only [fZ,h4,Bool.false_and])
 refine (bG e1).trans ((bG e2).trans ?_)
 cases h:oD 135 5 135 ts σ with
 | some r=>exact ew ((bG e3).trans ((bG e4).trans h))
 | none=>exact (bG ((bG e3).trans ((bG e4).trans h))).trans e5
theorem JR {σ:St} {ts:List T} {r:T×St} (h:th 136 5 [.int .i64 0,.int .i64 0,.int .i64 0,.int .i64 0,.int .u32 0] 136 ts σ=some r):dC 136 ts σ=some r:=by
 have e1:nc 7 true 136 ts σ=none:=by
  have:Nat.beq 136 7=false:=by decide
  simp only [nc,this,Bool.false_and]
 have e2:fc 136 ts σ=none:=by
  have:Nat.beq 136 29=false:=by decide
  simp only [fc,this]
 have e3:fZ (eS Tryz.prog 64 oP 16) jA 136 ts σ=none:=by
  have:jA.contains 136=false:=by decide
  simp only [fZ,this,Bool.false_and]
 exact (bG e1).trans ((bG e2).trans (ew ((bG e3).trans (ew h))))
theorem oO {f:Nat} {ts:List T} {v:T} (d:Nat) (s:St) (hf:(!Nat.beq f 7 && !Nat.beq f 29)=true) (hs:fZ (eS Tryz.prog 64 oP 16) jA f ts s=some (v,s)):R (d+1) f ts s=some (v,s):=by
 simp only [Bool.and_eq_true,Bool.not_eq_true'] at hf
 refine dU ((bG ?_).trans ((bG ?_).trans (ew (ew hs))))
 · simp only [nc,hf.1,Bool.false_and]
 · simp only [fc,hf.2]
theorem Ah {n:Bs} {b:Bool} (d:Nat) (s:St) (hs:fZ (eS Tryz.prog 64 oP 16) jA 90 [Z (.str n)] s=some (B b,s)):R (d+1) 90 [Z (.str n)] s=some (B b,s):=oO d s (by decide) hs
end
noncomputable section
def f179 (aa:ak) (N:Nat) (a0:T) (a1:T) (s:St):Option (T×St) :=
 ax (aa 218 [a0,a1,(I .i64 0),(I .i64 (-1))] s) fun t7 s1 =>
 some (t7,s1)
theorem Ma (aa:ak) (N:Nat) (a0:T) (a1:T) (s:St):aR Tryz.prog aa N Tryz.f179 [a0,a1] s=f179 aa N a0 a1 s:=by kernel_rfl
theorem HJ (d:Nat) (a0:T) (a1:T) (s:St):R (d+1) 179 [a0,a1] s=f179 (R d) 8192 a0 a1 s:=(au rfl Tryz.func179 (by kernel_rfl)).trans (Ma ..)
def oh (aa:ak) (N:Nat) (v:List T) (s:St):Option (JO×St) :=
 bd (af .lss (v.getD 5 .any) (v.getD 3 .any)) fun t36 =>
 br t36 (jn (ax (aa 247 [(v.getD 0 .any),(v.getD 1 .any)] s) fun t39 s8 =>
 bd (af .lss t39 (I .i64 0)) fun t41 =>
 br t41 (some (.exit 0 [(v.getD 0 .any),(v.getD 4 .any),(v.getD 5 .any)],s8))
 (bd (af .add t39 (v.getD 2 .any)) fun t47 =>
 bd (bD (v.getD 0 .any) none (some t47) none) fun t48 =>
 bd (av 1 (v.getD 4 .any) (v.getD 5 .any)) fun t49 =>
 ax (aw 1 t49 t48 s8) fun _ s9 =>
 bd (bN (v.getD 1 .any)) fun t53 =>
 bd (af .add t39 t53) fun t54 =>
 bd (bD (v.getD 0 .any) (some t54) none none) fun t55 =>
 bd (af .add (v.getD 5 .any) (I .i64 1)) fun t57 =>
 some (.normal [t55,(v.getD 1 .any),(v.getD 2 .any),(v.getD 3 .any),(v.getD 4 .any),t57],s9)))
 (fun v10 bO=>some (.normal [(v10.getD 0 .any),(v10.getD 1 .any),(v10.getD 2 .any),(v10.getD 3 .any),(v10.getD 4 .any),(v10.getD 5 .any)],bO))
 (fun i12 v10 bO=>some (.exit i12 v10,bO))
 (fun rN bO=>some (.ret rN,bO)))
 (some (.exit 0 [(v.getD 0 .any),(v.getD 4 .any),(v.getD 5 .any)],s))
def f218 (aa:ak) (N:Nat) (a0:T) (a1:T) (a2:T) (a3:T) (s:St):Option (T×St) :=
 bd (af .eql a3 (I .i64 0)) fun t13 =>
 br t13 (some ((Z .ay),s))
 (bd (af .eql a1 (Z (.str []))) fun t15 =>
 br t15 (ax (aa 245 [a0,a3] s) fun t18 s1 =>
 some (t18,s1))
 (bd (af .lss a3 (I .i64 0)) fun t20 =>
 jn (br t20 (ax (aa 246 [a0,a1] s) fun t23 s2 =>
 bd (af .add t23 (I .i64 1)) fun t24 =>
 some (.normal [a0,a1,a2,t24],s2))
 (some (.normal [a0,a1,a2,a3],s)))
 (fun v3 s4=>bd (bN (v3.getD 0 .any)) fun t27 =>
 bd (af .add t27 (I .i64 1)) fun t28 =>
 bd (kM nQ (v3.getD 3 .any) [t28]) fun t29 =>
 ax (aL s4 (Jr 1 16 [.str []] t29 t29)) fun t31 s7 =>
 bd (af .sub t29 (I .i64 1)) fun t33 =>
 jn (jn (loops (oh aa N) N [(v3.getD 0 .any),(v3.getD 1 .any),(v3.getD 2 .any),t33,t31,(I .i64 0)] s7)
 (fun jt gv=>some (.normal [.any,.any,.any],gv))
 (fun i16 jt gv=>if i16=0 then some (.normal jt,gv) else some (.exit i16 jt,gv))
 (fun Fu gv=>some (.ret Fu,gv)))
 (fun ng mf=>bd (av 1 (ng.getD 1 .any) (ng.getD 2 .any)) fun t61 =>
 ax (aw 1 t61 (ng.getD 0 .any) mf) fun _ iZ =>
 bd (af .add (ng.getD 2 .any) (I .i64 1)) fun t64 =>
 bd (aB 1 (ng.getD 1 .any) none (some t64) none) fun t65 =>
 some (t65,iZ))
 (fun i20 ng mf=>none)
 (fun JX mf=>some (JX,mf)))
 (fun i5 v3 s4=>none)
 (fun r6 s4=>some (r6,s4))))
theorem Mo (aa:ak) (N:Nat) (a0:T) (a1:T) (a2:T) (a3:T) (s:St):aR Tryz.prog aa N Tryz.f218 [a0,a1,a2,a3] s=f218 aa N a0 a1 a2 a3 s:=by kernel_rfl
theorem HW (d:Nat) (a0:T) (a1:T) (a2:T) (a3:T) (s:St):R (d+1) 218 [a0,a1,a2,a3] s=f218 (R d) 8192 a0 a1 a2 a3 s:=(au rfl Tryz.func218 (by kernel_rfl)).trans (Mo ..)
def f180 (aa:ak) (N:Nat) (a0:T) (a1:T) (s:St):Option (T×St) :=
 ax (aa 219 [a0,a1] s) fun t9 s1 =>
 bd (ah t9 0) fun t10 =>
 bd (ah t9 1) fun t11 =>
 bd (ah t9 2) fun t12 =>
 bd (aQ [t10,t11,t12]) fun r2 =>
 some (r2,s1)
theorem Mb (aa:ak) (N:Nat) (a0:T) (a1:T) (s:St):aR Tryz.prog aa N Tryz.f180 [a0,a1] s=f180 aa N a0 a1 s:=by kernel_rfl
theorem HK (d:Nat) (a0:T) (a1:T) (s:St):R (d+1) 180 [a0,a1] s=f180 (R d) 8192 a0 a1 s:=(au rfl Tryz.func180 (by kernel_rfl)).trans (Mb ..)
def f219 (aa:ak) (N:Nat) (a0:T) (a1:T) (s:St):Option (T×St) :=
 ax (aa 248 [a0,a1] s) fun t10 s1 =>
 bd (af .geq t10 (I .i64 0)) fun t12 =>
 br t12 (bd (bD a0 none (some t10) none) fun t15 =>
 bd (bN a1) fun t19 =>
 bd (af .add t10 t19) fun t20 =>
 bd (bD a0 (some t20) none none) fun t21 =>
 bd (aQ [t15,t21,(B true)]) fun r2 =>
 some (r2,s1))
 (bd (aQ [a0,(Z (.str [])),(B false)]) fun r3 =>
 some (r3,s1))
theorem Mp (aa:ak) (N:Nat) (a0:T) (a1:T) (s:St):aR Tryz.prog aa N Tryz.f219 [a0,a1] s=f219 aa N a0 a1 s:=by kernel_rfl
theorem HX (d:Nat) (a0:T) (a1:T) (s:St):R (d+1) 219 [a0,a1] s=f219 (R d) 8192 a0 a1 s:=(au rfl Tryz.func219 (by kernel_rfl)).trans (Mp ..)
def om (aa:ak) (N:Nat) (v:List T) (s:St):Option (JO×St) :=
 bd (af .lss (v.getD 3 .any) (v.getD 2 .any)) fun t9 =>
 br t9 (jn (bd (av 1 (v.getD 0 .any) (v.getD 3 .any)) fun t14 =>
 bd (ab t14 s.get) fun t15 =>
 bd (af .eql (v.getD 1 .any) t15) fun t16 =>
 br t16 (some (.ret (v.getD 3 .any),s))
 (some (.normal [(v.getD 0 .any),(v.getD 1 .any),(v.getD 2 .any),(v.getD 3 .any)],s)))
 (fun v1 s2=>bd (af .add (v1.getD 3 .any) (I .i64 1)) fun t18 =>
 some (.normal [(v1.getD 0 .any),(v1.getD 1 .any),(v1.getD 2 .any),t18],s2))
 (fun i3 v1 s2=>some (.exit i3 v1,s2))
 (fun r4 s2=>some (.ret r4,s2)))
 (some (.exit 0 [],s))
def f224 (aa:ak) (N:Nat) (a0:T) (a1:T) (s:St):Option (T×St) :=
 bd (az a0) fun t7 =>
 jn (jn (loops (om aa N) N [a0,a1,t7,(I .i64 0)] s)
 (fun v5 s6=>some (.normal [],s6))
 (fun i7 v5 s6=>if i7=0 then some (.normal v5,s6) else some (.exit i7 v5,s6))
 (fun r8 s6=>some (.ret r8,s6)))
 (fun v9 bM=>some ((I .i64 (-1)),bM))
 (fun i11 v9 bM=>none)
 (fun vf bM=>some (vf,bM))
theorem Ms (aa:ak) (N:Nat) (a0:T) (a1:T) (s:St):aR Tryz.prog aa N Tryz.f224 [a0,a1] s=f224 aa N a0 a1 s:=by kernel_rfl
theorem HZ (d:Nat) (a0:T) (a1:T) (s:St):R (d+1) 224 [a0,a1] s=f224 (R d) 8192 a0 a1 s:=(au rfl Tryz.func224 (by kernel_rfl)).trans (Ms ..)
def f183 (aa:ak) (N:Nat) (a0:T) (a1:T) (s:St):Option (T×St) :=
 ax (aa 224 [a0,a1] s) fun t7 s1 =>
 bd (af .geq t7 (I .i64 0)) fun t8 =>
 some (t8,s1)
theorem Md (aa:ak) (N:Nat) (a0:T) (a1:T) (s:St):aR Tryz.prog aa N Tryz.f183 [a0,a1] s=f183 aa N a0 a1 s:=by kernel_rfl
theorem HN (d:Nat) (a0:T) (a1:T) (s:St):R (d+1) 183 [a0,a1] s=f183 (R d) 8192 a0 a1 s:=(au rfl Tryz.func183 (by kernel_rfl)).trans (Md ..)
def f129 (aa:ak) (N:Nat) (a0:T) (a1:T) (s:St):Option (T×St) :=
 bd (af .eql a0 (Z (.str []))) fun t8 =>
 bd (gT (gd t8 false) (some a1)) fun t10 =>
 bd (gT (gd t8 false) (af .eql t10 (Z (.str [])))) fun t11 =>
 bd (aC t8 (B true) t11) fun t12 =>
 br t12 (some (a0,s))
 (bd (bN a1) fun t15 =>
 bd (af .eql t15 (I .i64 1)) fun t16 =>
 bd (gT (gd t16 true) (some a1)) fun t18 =>
 bd (gT (gd t16 true) (dG t18 (I .i64 0))) fun t19 =>
 bd (gT (gd t16 true) (af .lss t19 (I .u8 128))) fun t20 =>
 bd (aC t16 t20 (B false)) fun t21 =>
 br t21 (bd (dG a1 (I .i64 0)) fun t24 =>
 ax (aa 166 [a0,t24] s) fun t25 s1 =>
 bd (dG a1 (I .i64 0)) fun t27 =>
 ax (aa 165 [t25,t27] s1) fun t28 s2 =>
 some (t28,s2))
 (ax (aa 167 [a1] s) fun t31 s3 =>
 bd (ah t31 0) fun t32 =>
 bd (ah t31 1) fun t33 =>
 ax (aL s3 (bb [.bool false,.bool false,.bool false,.bool false,.bool false,.bool false,.bool false,.bool false,.bool false,.bool false,.bool false,.bool false,.bool false,.bool false,.bool false,.bool false,.bool false,.bool false,.bool false,.bool false,.bool false,.bool false,.bool false,.bool false,.bool false,.bool false,.bool false,.bool false,.bool false,.bool false,.bool false,.bool false,.bool false,.bool false,.bool false,.bool false,.bool false,.bool false,.bool false,.bool false,.bool false,.bool false,.bool false,.bool false,.bool false,.bool false,.bool false,.bool false,.bool false,.bool false,.bool false,.bool false,.bool false,.bool false,.bool false,.bool false,.bool false,.bool false,.bool false,.bool false,.bool false,.bool false,.bool false,.bool false,.bool false,.bool false,.bool false,.bool false,.bool false,.bool false,.bool false,.bool false,.bool false,.bool false,.bool false,.bool false,.bool false,.bool false,.bool false,.bool false,.bool false,.bool false,.bool false,.bool false,.bool false,.bool false,.bool false,.bool false,.bool false,.bool false,.bool false,.bool false,.bool false,.bool false,.bool false,.bool false,.bool false,.bool false,.bool false,.bool false,.bool false,.bool false,.bool false,.bool false,.bool false,.bool false,.bool false,.bool false,.bool false,.bool false,.bool false,.bool false,.bool false,.bool false,.bool false,.bool false,.bool false,.bool false,.bool false,.bool false,.bool false,.bool false,.bool false,.bool false,.bool false,.bool false,.bool false,.bool false,.bool false,.bool false,.bool false,.bool false,.bool false,.bool false,.bool false,.bool false,.bool false,.bool false,.bool false,.bool false,.bool false,.bool false,.bool false,.bool false,.bool false,.bool false,.bool false,.bool false,.bool false,.bool false,.bool false,.bool false,.bool false,.bool false,.bool false,.bool false,.bool false,.bool false,.bool false,.bool false,.bool false,.bool false,.bool false,.bool false,.bool false,.bool false,.bool false,.bool false,.bool false,.bool false,.bool false,.bool false,.bool false,.bool false,.bool false,.bool false,.bool false,.bool false,.bool false,.bool false,.bool false,.bool false,.bool false,.bool false,.bool false,.bool false,.bool false,.bool false,.bool false,.bool false,.bool false,.bool false,.bool false,.bool false,.bool false,.bool false,.bool false,.bool false,.bool false,.bool false,.bool false,.bool false,.bool false,.bool false,.bool false,.bool false,.bool false,.bool false,.bool false,.bool false,.bool false,.bool false,.bool false,.bool false,.bool false,.bool false,.bool false,.bool false,.bool false,.bool false,.bool false,.bool false,.bool false,.bool false,.bool false,.bool false,.bool false,.bool false,.bool false,.bool false,.bool false,.bool false,.bool false,.bool false,.bool false,.bool false,.bool false,.bool false,.bool false,.bool false,.bool false,.bool false,.bool false,.bool false,.bool false,.bool false,.bool false,.bool false,.bool false,.bool false,.bool false,.bool false,.bool false,.bool false,.bool false,.bool false])) fun t5 s4 =>
 ax (aw 256 t5 t32 s4) fun _ s5 =>
 br t33 (ax (aa 169 [a0,t5] s5) fun t36 s6 =>
 ax (aa 168 [t36,t5] s6) fun t37 s7 =>
 some (t37,s7))
 (ax (aa 171 [a0,a1] s5) fun t40 s8 =>
 ax (aa 170 [t40,a1] s8) fun t42 s9 =>
 some (t42,s9))))
theorem LA (aa:ak) (N:Nat) (a0:T) (a1:T) (s:St):aR Tryz.prog aa N Tryz.f129 [a0,a1] s=f129 aa N a0 a1 s:=by kernel_rfl
theorem Hm (d:Nat) (a0:T) (a1:T) (s:St):R (d+1) 129 [a0,a1] s=f129 (R d) 8192 a0 a1 s:=(au rfl Tryz.func129 (by kernel_rfl)).trans (LA ..)
def od (aa:ak) (N:Nat) (v:List T) (s:St):Option (JO×St) :=
 bd (bN (v.getD 0 .any)) fun t6 =>
 bd (af .gtr t6 (I .i64 0)) fun t7 =>
 br t7 (jn (bd (dG (v.getD 0 .any) (I .i64 0)) fun t10 =>
 ax (aa 212 [(v.getD 1 .any),t10] s) fun t11 s1 =>
 bd (jZ .not t11) fun t12 =>
 br t12 (some (.exit 0 [(v.getD 0 .any)],s1))
 (bd (bD (v.getD 0 .any) (some (I .i64 1)) none none) fun t14 =>
 some (.normal [t14,(v.getD 1 .any)],s1)))
 (fun v2 s3=>some (.normal [(v2.getD 0 .any),(v2.getD 1 .any)],s3))
 (fun i4 v2 s3=>some (.exit i4 v2,s3))
 (fun r5 s3=>some (.ret r5,s3)))
 (some (.exit 0 [(v.getD 0 .any)],s))
def f168 (aa:ak) (N:Nat) (a0:T) (a1:T) (s:St):Option (T×St) :=
 jn (jn (loops (od aa N) N [a0,a1] s)
 (fun v6 s7=>some (.normal [.any],s7))
 (fun i8 v6 s7=>if i8=0 then some (.normal v6,s7) else some (.exit i8 v6,s7))
 (fun r9 s7=>some (.ret r9,s7)))
 (fun v10 bO=>some ((v10.getD 0 .any),bO))
 (fun i12 v10 bO=>none)
 (fun rN bO=>some (rN,bO))
theorem LY (aa:ak) (N:Nat) (a0:T) (a1:T) (s:St):aR Tryz.prog aa N Tryz.f168 [a0,a1] s=f168 aa N a0 a1 s:=by kernel_rfl
theorem HA (d:Nat) (a0:T) (a1:T) (s:St):R (d+1) 168 [a0,a1] s=f168 (R d) 8192 a0 a1 s:=(au rfl Tryz.func168 (by kernel_rfl)).trans (LY ..)
def oe (aa:ak) (N:Nat) (v:List T) (s:St):Option (JO×St) :=
 bd (bN (v.getD 0 .any)) fun t6 =>
 bd (af .gtr t6 (I .i64 0)) fun t7 =>
 br t7 (jn (bd (bN (v.getD 0 .any)) fun t11 =>
 bd (af .sub t11 (I .i64 1)) fun t12 =>
 bd (dG (v.getD 0 .any) t12) fun t13 =>
 ax (aa 212 [(v.getD 1 .any),t13] s) fun t14 s1 =>
 bd (jZ .not t14) fun t15 =>
 br t15 (some (.exit 0 [(v.getD 0 .any)],s1))
 (bd (bN (v.getD 0 .any)) fun t18 =>
 bd (af .sub t18 (I .i64 1)) fun t19 =>
 bd (bD (v.getD 0 .any) none (some t19) none) fun t20 =>
 some (.normal [t20,(v.getD 1 .any)],s1)))
 (fun v2 s3=>some (.normal [(v2.getD 0 .any),(v2.getD 1 .any)],s3))
 (fun i4 v2 s3=>some (.exit i4 v2,s3))
 (fun r5 s3=>some (.ret r5,s3)))
 (some (.exit 0 [(v.getD 0 .any)],s))
def f169 (aa:ak) (N:Nat) (a0:T) (a1:T) (s:St):Option (T×St) :=
 jn (jn (loops (oe aa N) N [a0,a1] s)
 (fun v6 s7=>some (.normal [.any],s7))
 (fun i8 v6 s7=>if i8=0 then some (.normal v6,s7) else some (.exit i8 v6,s7))
 (fun r9 s7=>some (.ret r9,s7)))
 (fun v10 bO=>some ((v10.getD 0 .any),bO))
 (fun i12 v10 bO=>none)
 (fun rN bO=>some (rN,bO))
theorem LZ (aa:ak) (N:Nat) (a0:T) (a1:T) (s:St):aR Tryz.prog aa N Tryz.f169 [a0,a1] s=f169 aa N a0 a1 s:=by kernel_rfl
theorem HB (d:Nat) (a0:T) (a1:T) (s:St):R (d+1) 169 [a0,a1] s=f169 (R d) 8192 a0 a1 s:=(au rfl Tryz.func169 (by kernel_rfl)).trans (LZ ..)
def f212 (aa:ak) (N:Nat) (a0:T) (a1:T) (s:St):Option (T×St) :=
 bd (bg a0) fun t7 =>
 bd (bz 256 1 t7 a1) fun t8 =>
 bd (ab t8 s.get) fun t9 =>
 some (t9,s)
theorem Mm (aa:ak) (N:Nat) (a0:T) (a1:T) (s:St):aR Tryz.prog aa N Tryz.f212 [a0,a1] s=f212 aa N a0 a1 s:=by kernel_rfl
theorem HU (d:Nat) (a0:T) (a1:T) (s:St):R (d+1) 212 [a0,a1] s=f212 (R d) 8192 a0 a1 s:=(au rfl Tryz.func212 (by kernel_rfl)).trans (Mm ..)
def f251 (aa:ak) (N:Nat) (a0:T) (a1:T) (a2:T) (s:St):Option (T×St) :=
 ax (aa 185 [a0,a1,a2] s) fun t13 s1 =>
 bd (ah t13 0) fun t14 =>
 bd (ah t13 1) fun t15 =>
 bd (Bn .i t15 (Z .iT)) fun t17 =>
 br t17 (ax (aa 139 [(Z (.str [80,97,114,115,101,73,110,116])),a0,a1,a2,t15] s1) fun t23 s2 =>
 bd (aQ [t14,t23]) fun r3 =>
 some (r3,s2))
 (bd (aQ [t14,(Z .iT)]) fun r4 =>
 some (r4,s1))
theorem Mx (aa:ak) (N:Nat) (a0:T) (a1:T) (a2:T) (s:St):aR Tryz.prog aa N Tryz.f251 [a0,a1,a2] s=f251 aa N a0 a1 a2 s:=by kernel_rfl
theorem Ia (d:Nat) (a0:T) (a1:T) (a2:T) (s:St):R (d+1) 251 [a0,a1,a2] s=f251 (R d) 8192 a0 a1 a2 s:=(au rfl Tryz.func251 (by kernel_rfl)).trans (Mx ..)
def f185 (aa:ak) (N:Nat) (a0:T) (a1:T) (a2:T) (s:St):Option (T×St) :=
 bd (af .eql a0 (Z (.str []))) fun t13 =>
 br t13 (bd ((none:Option T)) fun t14 =>
 bd (aQ [(I .i64 0),t14]) fun r1 =>
 some (r1,s))
 (bd (dG a0 (I .i64 0)) fun t16 =>
 jn (bd (af .eql t16 (I .u8 43)) fun t18 =>
 jn (br t18 (bd (bD a0 (some (I .i64 1)) none none) fun t20 =>
 some (.normal [t20,a1,a2,(B false)],s))
 (bd (af .eql t16 (I .u8 45)) fun t22 =>
 jn (br t22 (bd (bD a0 (some (I .i64 1)) none none) fun t24 =>
 some (.normal [t24,a1,a2,(B true)],s))
 (some (.normal [a0,a1,a2,(B false)],s)))
 (fun v2 s3=>some (.normal [(v2.getD 0 .any),(v2.getD 1 .any),(v2.getD 2 .any),(v2.getD 3 .any)],s3))
 (fun i4 v2 s3=>some (.exit i4 v2,s3))
 (fun r5 s3=>some (.ret r5,s3))))
 (fun v6 s7=>some (.normal [(v6.getD 0 .any),(v6.getD 1 .any),(v6.getD 2 .any),(v6.getD 3 .any)],s7))
 (fun i8 v6 s7=>if i8=0 then some (.normal v6,s7) else some (.exit i8 v6,s7))
 (fun r9 s7=>some (.ret r9,s7)))
 (fun v10 bO=>ax (aa 226 [(v10.getD 0 .any),(v10.getD 1 .any),(v10.getD 2 .any)] bO) fun t29 fR =>
 bd (ah t29 0) fun t30 =>
 bd (ah t29 1) fun t31 =>
 bd (Bn .i t31 (Z .iT)) fun t33 =>
 bd (gT (gd t33 true) (some t31)) fun t35 =>
 bd (gT (gd t33 true) ((none:Option T))) fun t36 =>
 bd (gT (gd t33 true) ((none:Option T))) fun t37 =>
 bd (aC t33 t37 (B false)) fun t38 =>
 br t38 (bd (aQ [(I .i64 0),t31]) fun Fs =>
 some (Fs,fR))
 (bd (af .eql (v10.getD 2 .any) (I .i64 0)) fun t41 =>
 jn (br t41 (some (.normal [(I .i64 64),(v10.getD 3 .any),t30],fR))
 (some (.normal [(v10.getD 2 .any),(v10.getD 3 .any),t30],fR)))
 (fun gW iI=>bd (af .sub (gW.getD 0 .any) (I .i64 1)) fun t43 =>
 bd (aI .u64 t43) fun t44 =>
 bd (af .shl (I .u64 1) t44) fun t45 =>
 bd (jZ .not (gW.getD 1 .any)) fun t47 =>
 bd (gT (gd t47 true) (some (gW.getD 2 .any))) fun t49 =>
 bd (gT (gd t47 true) (some t45)) fun t50 =>
 bd (gT (gd t47 true) (af .geq t49 t50)) fun t51 =>
 bd (aC t47 t51 (B false)) fun t52 =>
 br t52 (bd (af .sub t45 (I .u64 1)) fun t54 =>
 bd (aI .i64 t54) fun t55 =>
 bd ((none:Option T)) fun t56 =>
 bd (aQ [t55,t56]) fun CF =>
 some (CF,iI))
 (bd (gT (gd (gW.getD 1 .any) true) (some (gW.getD 2 .any))) fun t59 =>
 bd (gT (gd (gW.getD 1 .any) true) (some t45)) fun t60 =>
 bd (gT (gd (gW.getD 1 .any) true) (af .gtr t59 t60)) fun t61 =>
 bd (aC (gW.getD 1 .any) t61 (B false)) fun t62 =>
 br t62 (bd (aI .i64 t45) fun t64 =>
 bd (jZ .neg t64) fun t65 =>
 bd ((none:Option T)) fun t66 =>
 bd (aQ [t65,t66]) fun JX =>
 some (JX,iI))
 (bd (aI .i64 (gW.getD 2 .any)) fun t68 =>
 jn (br (gW.getD 1 .any) (bd (jZ .neg t68) fun t71 =>
 some (.normal [t71],iI))
 (some (.normal [t68],iI)))
 (fun v22 na=>bd (aQ [(v22.getD 0 .any),(Z .iT)]) fun Vt =>
 some (Vt,na))
 (fun i24 v22 na=>none)
 (fun Oz na=>some (Oz,na)))))
 (fun i18 gW iI=>none)
 (fun ym iI=>some (ym,iI))))
 (fun i12 v10 bO=>none)
 (fun rN bO=>some (rN,bO)))
theorem Mf (aa:ak) (N:Nat) (a0:T) (a1:T) (a2:T) (s:St):aR Tryz.prog aa N Tryz.f185 [a0,a1,a2] s=f185 aa N a0 a1 a2 s:=by kernel_rfl
theorem HP (d:Nat) (a0:T) (a1:T) (a2:T) (s:St):R (d+1) 185 [a0,a1,a2] s=f185 (R d) 8192 a0 a1 a2 s:=(au rfl Tryz.func185 (by kernel_rfl)).trans (Mf ..)
def rY (aa:ak) (N:Nat) (v:List T) (s:St):Option (JO×St) :=
 bd (af .lss (v.getD 9 .any) (v.getD 8 .any)) fun t102 =>
 br t102 (jn (bd (av 1 (v.getD 7 .any) (v.getD 9 .any)) fun t103 =>
 bd (ab t103 s.get) fun t104 =>
 jn (bd (af .eql t104 (I .u8 95)) fun t108 =>
 bd (gT (gd t108 true) (some (v.getD 1 .any))) fun t110 =>
 bd (aC t108 t110 (B false)) fun t111 =>
 br t111 (some (.exit 4 [(v.getD 0 .any),(v.getD 1 .any),(v.getD 2 .any),(v.getD 3 .any),(v.getD 4 .any),(B true),(v.getD 6 .any),(v.getD 7 .any),(v.getD 8 .any),(v.getD 9 .any)],s))
 (bd (af .leq (I .u8 48) t104) fun t114 =>
 bd (gT (gd t114 true) (some t104)) fun t116 =>
 bd (gT (gd t114 true) (af .leq t116 (I .u8 57))) fun t117 =>
 bd (aC t114 t117 (B false)) fun t118 =>
 jn (br t118 (bd (af .sub t104 (I .u8 48)) fun t120 =>
 some (.normal [(v.getD 0 .any),(v.getD 1 .any),(v.getD 2 .any),(v.getD 3 .any),(v.getD 4 .any),(v.getD 5 .any),(v.getD 6 .any),t120,(v.getD 7 .any),(v.getD 8 .any),(v.getD 9 .any)],s))
 (ax (aa 252 [t104] s) fun t123 PA =>
 bd (af .leq (I .u8 97) t123) fun t124 =>
 bd (gT (gd t124 true) (some t104)) fun t126 =>
 ax (gS (gd t124 true) PA (aa 252 [t126] PA)) fun t127 s53 =>
 bd (gT (gd t124 true) (af .leq t127 (I .u8 122))) fun t128 =>
 bd (aC t124 t128 (B false)) fun t129 =>
 br t129 (ax (aa 252 [t104] s53) fun t131 s54 =>
 bd (af .sub t131 (I .u8 97)) fun t132 =>
 bd (af .add t132 (I .u8 10)) fun t133 =>
 some (.normal [(v.getD 0 .any),(v.getD 1 .any),(v.getD 2 .any),(v.getD 3 .any),(v.getD 4 .any),(v.getD 5 .any),(v.getD 6 .any),t133,(v.getD 7 .any),(v.getD 8 .any),(v.getD 9 .any)],s54))
 (bd ((none:Option T)) fun t105 =>
 bd (aQ [(I .u64 0),t105]) fun r55 =>
 some (.ret r55,s53))))
 (fun D5 Ti=>some (.normal [(D5.getD 0 .any),(D5.getD 1 .any),(D5.getD 2 .any),(D5.getD 3 .any),(D5.getD 4 .any),(D5.getD 5 .any),(D5.getD 6 .any),(D5.getD 7 .any),(D5.getD 8 .any),(D5.getD 9 .any),(D5.getD 10 .any)],Ti))
 (fun i58 D5 Ti=>if i58=5 then some (.normal D5,Ti) else some (.exit i58 D5,Ti))
 (fun r59 Ti=>some (.ret r59,Ti))))
 (fun uM OK=>bd (aI .u8 (uM.getD 0 .any)) fun t136 =>
 bd (af .geq (uM.getD 7 .any) t136) fun t137 =>
 br t137 (bd ((none:Option T)) fun t138 =>
 bd (aQ [(I .u64 0),t138]) fun r64 =>
 some (.ret r64,OK))
 (bd (af .geq (uM.getD 6 .any) (uM.getD 3 .any)) fun t141 =>
 br t141 (bd ((none:Option T)) fun t143 =>
 bd (aQ [(uM.getD 4 .any),t143]) fun r65 =>
 some (.ret r65,OK))
 (bd (aI .u64 (uM.getD 0 .any)) fun t146 =>
 bd (af .mul (uM.getD 6 .any) t146) fun t147 =>
 bd (aI .u64 (uM.getD 7 .any)) fun t150 =>
 bd (af .add t147 t150) fun t151 =>
 bd (af .lss t151 t147) fun t154 =>
 bd (gT (gd t154 false) (some t151)) fun t156 =>
 bd (gT (gd t154 false) (some (uM.getD 4 .any))) fun t157 =>
 bd (gT (gd t154 false) (af .gtr t156 t157)) fun t158 =>
 bd (aC t154 (B true) t158) fun t159 =>
 br t159 (bd ((none:Option T)) fun t161 =>
 bd (aQ [(uM.getD 4 .any),t161]) fun r66 =>
 some (.ret r66,OK))
 (some (.normal [(uM.getD 0 .any),(uM.getD 1 .any),(uM.getD 2 .any),(uM.getD 3 .any),(uM.getD 4 .any),(uM.getD 5 .any),t151,(uM.getD 8 .any),(uM.getD 9 .any),(uM.getD 10 .any)],OK)))))
 (fun i62 uM OK=>if i62=4 then some (.normal uM,OK) else some (.exit i62 uM,OK))
 (fun r63 OK=>some (.ret r63,OK)))
 (fun Gq PB=>bd (af .add (Gq.getD 9 .any) (I .i64 1)) fun t163 =>
 some (.normal [(Gq.getD 0 .any),(Gq.getD 1 .any),(Gq.getD 2 .any),(Gq.getD 3 .any),(Gq.getD 4 .any),(Gq.getD 5 .any),(Gq.getD 6 .any),(Gq.getD 7 .any),(Gq.getD 8 .any),t163],PB))
 (fun i69 Gq PB=>some (.exit i69 Gq,PB))
 (fun r70 PB=>some (.ret r70,PB)))
 (some (.exit 3 [(v.getD 2 .any),(v.getD 5 .any),(v.getD 6 .any)],s))
def f226 (aa:ak) (N:Nat) (a0:T) (a1:T) (a2:T) (s:St):Option (T×St) :=
 bd (af .eql a0 (Z (.str []))) fun t19 =>
 br t19 (bd ((none:Option T)) fun t20 =>
 bd (aQ [(I .u64 0),t20]) fun r1 =>
 some (r1,s))
 (bd (af .eql a1 (I .i64 0)) fun t22 =>
 jn (bd (af .leq (I .i64 2) a1) fun t27 =>
 bd (gT (gd t27 true) (some a1)) fun t29 =>
 bd (gT (gd t27 true) (af .leq t29 (I .i64 36))) fun t30 =>
 bd (aC t27 t30 (B false)) fun t31 =>
 jn (br t31 (some (.normal [a0,a1,a2,t22,a0],s))
 (bd (af .eql a1 (I .i64 0)) fun t34 =>
 br t34 (bd (dG a0 (I .i64 0)) fun t36 =>
 bd (af .eql t36 (I .u8 48)) fun t37 =>
 jn (br t37 (jn (bd (bN a0) fun t42 =>
 bd (af .geq t42 (I .i64 3)) fun t43 =>
 bd (gT (gd t43 true) (some a0)) fun t45 =>
 bd (gT (gd t43 true) (dG t45 (I .i64 1))) fun t46 =>
 ax (gS (gd t43 true) s (aa 252 [t46] s)) fun t47 s2 =>
 bd (gT (gd t43 true) (af .eql t47 (I .u8 98))) fun t48 =>
 bd (aC t43 t48 (B false)) fun t49 =>
 jn (br t49 (bd (bD a0 (some (I .i64 2)) none none) fun t51 =>
 some (.normal [t51,(I .i64 2),a2,t22,a0],s2))
 (bd (bN a0) fun t54 =>
 bd (af .geq t54 (I .i64 3)) fun t55 =>
 bd (gT (gd t55 true) (some a0)) fun t57 =>
 bd (gT (gd t55 true) (dG t57 (I .i64 1))) fun t58 =>
 ax (gS (gd t55 true) s2 (aa 252 [t58] s2)) fun t59 s3 =>
 bd (gT (gd t55 true) (af .eql t59 (I .u8 111))) fun t60 =>
 bd (aC t55 t60 (B false)) fun t61 =>
 jn (br t61 (bd (bD a0 (some (I .i64 2)) none none) fun t63 =>
 some (.normal [t63,(I .i64 8),a2,t22,a0],s3))
 (bd (bN a0) fun t66 =>
 bd (af .geq t66 (I .i64 3)) fun t67 =>
 bd (gT (gd t67 true) (some a0)) fun t69 =>
 bd (gT (gd t67 true) (dG t69 (I .i64 1))) fun t70 =>
 ax (gS (gd t67 true) s3 (aa 252 [t70] s3)) fun t71 s4 =>
 bd (gT (gd t67 true) (af .eql t71 (I .u8 120))) fun t72 =>
 bd (aC t67 t72 (B false)) fun t73 =>
 jn (br t73 (bd (bD a0 (some (I .i64 2)) none none) fun t75 =>
 some (.normal [t75,(I .i64 16),a2,t22,a0],s4))
 (bd (bD a0 (some (I .i64 1)) none none) fun t39 =>
 some (.normal [t39,(I .i64 8),a2,t22,a0],s4)))
 (fun v5 s6=>some (.normal [(v5.getD 0 .any),(v5.getD 1 .any),(v5.getD 2 .any),(v5.getD 3 .any),(v5.getD 4 .any)],s6))
 (fun i7 v5 s6=>some (.exit i7 v5,s6))
 (fun r8 s6=>some (.ret r8,s6))))
 (fun v9 bM=>some (.normal [(v9.getD 0 .any),(v9.getD 1 .any),(v9.getD 2 .any),(v9.getD 3 .any),(v9.getD 4 .any)],bM))
 (fun i11 v9 bM=>some (.exit i11 v9,bM))
 (fun vf bM=>some (.ret vf,bM))))
 (fun lB fR=>some (.normal [(lB.getD 0 .any),(lB.getD 1 .any),(lB.getD 2 .any),(lB.getD 3 .any),(lB.getD 4 .any)],fR))
 (fun i15 lB fR=>if i15=1 then some (.normal lB,fR) else some (.exit i15 lB,fR))
 (fun r16 fR=>some (.ret r16,fR)))
 (fun jF gV=>some (.normal [(jF.getD 0 .any),(jF.getD 1 .any),(jF.getD 2 .any),(jF.getD 3 .any),(jF.getD 4 .any)],gV))
 (fun i19 jF gV=>some (.exit i19 jF,gV))
 (fun CF gV=>some (.ret CF,gV)))
 (some (.normal [a0,(I .i64 10),a2,t22,a0],s)))
 (fun v21 iZ=>some (.normal [(v21.getD 0 .any),(v21.getD 1 .any),(v21.getD 2 .any),(v21.getD 3 .any),(v21.getD 4 .any)],iZ))
 (fun i23 v21 iZ=>some (.exit i23 v21,iZ))
 (fun JY iZ=>some (.ret JY,iZ)))
 (bd ((none:Option T)) fun t24 =>
 bd (aQ [(I .u64 0),t24]) fun Oz =>
 some (.ret Oz,s))))
 (fun v26 sC=>some (.normal [(v26.getD 0 .any),(v26.getD 1 .any),(v26.getD 2 .any),(v26.getD 3 .any),(v26.getD 4 .any)],sC))
 (fun i28 v26 sC=>if i28=0 then some (.normal v26,sC) else some (.exit i28 v26,sC))
 (fun ZF sC=>some (.ret ZF,sC)))
 (fun v30 wM=>bd (af .eql (v30.getD 2 .any) (I .i64 0)) fun t77 =>
 jn (br t77 (some (.normal [(v30.getD 0 .any),(v30.getD 1 .any),(I .i64 64),(v30.getD 3 .any),(v30.getD 4 .any)],wM))
 (bd (af .lss (v30.getD 2 .any) (I .i64 0)) fun t79 =>
 bd (gT (gd t79 false) (some (v30.getD 2 .any))) fun t81 =>
 bd (gT (gd t79 false) (af .gtr t81 (I .i64 64))) fun t82 =>
 bd (aC t79 (B true) t82) fun t83 =>
 br t83 (bd ((none:Option T)) fun t84 =>
 bd (aQ [(I .u64 0),t84]) fun r34 =>
 some (.ret r34,wM))
 (some (.normal [(v30.getD 0 .any),(v30.getD 1 .any),(v30.getD 2 .any),(v30.getD 3 .any),(v30.getD 4 .any)],wM))))
 (fun v35 Gh=>jn (bd (af .eql (v35.getD 1 .any) (I .i64 10)) fun t91 =>
 jn (br t91 (some (.normal [(v35.getD 0 .any),(v35.getD 1 .any),(v35.getD 2 .any),(v35.getD 3 .any),(v35.getD 4 .any),(I .u64 1844674407370955162)],Gh))
 (bd (af .eql (v35.getD 1 .any) (I .i64 16)) fun t93 =>
 jn (br t93 (some (.normal [(v35.getD 0 .any),(v35.getD 1 .any),(v35.getD 2 .any),(v35.getD 3 .any),(v35.getD 4 .any),(I .u64 1152921504606846976)],Gh))
 (bd (aI .u64 (v35.getD 1 .any)) fun t87 =>
 bd (af .quo (I .u64 18446744073709551615) t87) fun t88 =>
 bd (af .add t88 (I .u64 1)) fun t89 =>
 some (.normal [(v35.getD 0 .any),(v35.getD 1 .any),(v35.getD 2 .any),(v35.getD 3 .any),(v35.getD 4 .any),t89],Gh)))
 (fun Gn Bq=>some (.normal [(Gn.getD 0 .any),(Gn.getD 1 .any),(Gn.getD 2 .any),(Gn.getD 3 .any),(Gn.getD 4 .any),(Gn.getD 5 .any)],Bq))
 (fun i41 Gn Bq=>some (.exit i41 Gn,Bq))
 (fun ZM Bq=>some (.ret ZM,Bq))))
 (fun Gp DW=>some (.normal [(Gp.getD 0 .any),(Gp.getD 1 .any),(Gp.getD 2 .any),(Gp.getD 3 .any),(Gp.getD 4 .any),(Gp.getD 5 .any)],DW))
 (fun i45 Gp DW=>if i45=2 then some (.normal Gp,DW) else some (.exit i45 Gp,DW))
 (fun ZO DW=>some (.ret ZO,DW)))
 (fun Sq Gj=>bd (aI .u64 (Sq.getD 2 .any)) fun t95 =>
 bd (af .shl (I .u64 1) t95) fun t96 =>
 bd (af .sub t96 (I .u64 1)) fun t97 =>
 ax (aL Gj (qi (Sq.getD 0 .any))) fun t99 Sh =>
 bd (az t99) fun t100 =>
 jn (jn (loops (rY aa N) N [(Sq.getD 1 .any),(Sq.getD 3 .any),(Sq.getD 4 .any),(Sq.getD 5 .any),t97,(B false),(I .u64 0),t99,t100,(I .i64 0)] Sh)
 (fun ZY Tj=>some (.normal [.any,.any,.any],Tj))
 (fun i73 ZY Tj=>if i73=3 then some (.normal ZY,Tj) else some (.exit i73 ZY,Tj))
 (fun r74 Tj=>some (.ret r74,Tj)))
 (fun v75 VB=>bd (gT (gd (v75.getD 1 .any) true) (some (v75.getD 0 .any))) fun t166 =>
 ax (gS (gd (v75.getD 1 .any) true) VB (aa 253 [t166] VB)) fun t167 s79 =>
 bd (gT (gd (v75.getD 1 .any) true) (jZ .not t167)) fun t168 =>
 bd (aC (v75.getD 1 .any) t168 (B false)) fun t169 =>
 br t169 (bd ((none:Option T)) fun t170 =>
 bd (aQ [(I .u64 0),t170]) fun r80 =>
 some (r80,s79))
 (bd (aQ [(v75.getD 2 .any),(Z .iT)]) fun r81 =>
 some (r81,s79)))
 (fun i77 v75 VB=>none)
 (fun r78 VB=>some (r78,VB)))
 (fun i49 Sq Gj=>none)
 (fun Vx Gj=>some (Vx,Gj)))
 (fun i37 v35 Gh=>none)
 (fun ZJ Gh=>some (ZJ,Gh)))
 (fun i32 v30 wM=>none)
 (fun ZH wM=>some (ZH,wM)))
theorem Mu (aa:ak) (N:Nat) (a0:T) (a1:T) (a2:T) (s:St):aR Tryz.prog aa N Tryz.f226 [a0,a1,a2] s=f226 aa N a0 a1 a2 s:=by kernel_rfl
theorem H9 (d:Nat) (a0:T) (a1:T) (a2:T) (s:St):R (d+1) 226 [a0,a1,a2] s=f226 (R d) 8192 a0 a1 a2 s:=(au rfl Tryz.func226 (by kernel_rfl)).trans (Mu ..)
end
noncomputable section
def f223 (aa:ak) (N:Nat) (a0:T) (s:St):Option (T×St) :=
 bd (bN a0) fun t7 =>
 bd (af .lss t7 (I .i64 1)) fun t8 =>
 bd (gT (gd t8 false) (some a0)) fun t10 =>
 bd (gT (gd t8 false) (bN t10)) fun t11 =>
 bd (gT (gd t8 false) (af .gtr t11 (I .i64 13))) fun t12 =>
 bd (aC t8 (B true) t12) fun t13 =>
 bd (gT (gd t13 false) (some a0)) fun t15 =>
 ax (gS (gd t13 false) s (aa 129 [t15,(Z (.str [48,49,50,51,52,53,54,55,56,57]))] s)) fun t16 s1 =>
 bd (gT (gd t13 false) (af .neq t16 (Z (.str [])))) fun t17 =>
 bd (aC t13 (B true) t17) fun t18 =>
 br t18 (bd (aQ [(I .i64 0),(B false)]) fun r2 =>
 some (r2,s1))
 (ax (aa 251 [a0,(I .i64 10),(I .i64 64)] s1) fun t21 s3 =>
 bd (ah t21 0) fun t22 =>
 bd (ah t21 1) fun t23 =>
 bd (fT .i t23 (Z .iT)) fun t26 =>
 bd (aQ [t22,t26]) fun r4 =>
 some (r4,s3))
theorem Mr (aa:ak) (N:Nat) (a0:T) (s:St):aR Tryz.prog aa N Tryz.f223 [a0] s=f223 aa N a0 s:=by kernel_rfl
theorem HY (d:Nat) (a0:T) (s:St):R (d+1) 223 [a0] s=f223 (R d) 8192 a0 s:=(au rfl Tryz.func223 (by kernel_rfl)).trans (Mr ..)
def f225 (aa:ak) (N:Nat) (s:St):Option (T×St) :=
 ax (aL s (aS 4 (aG [.str [],.str [],.str [],.str []] [(0,1,(Z (.str [114,97,119]))),(1,1,(Z (.str [53,109]))),(2,1,(Z (.str [49,104]))),(3,1,(Z (.str [49,100])))]))) fun t1 s1 =>
 some (t1,s1)
theorem Mt (aa:ak) (N:Nat) (s:St):aR Tryz.prog aa N Tryz.f225 [] s=f225 aa N s:=by kernel_rfl
theorem H6 (d:Nat) (s:St):R (d+1) 225 [] s=f225 (R d) 8192 s:=(au rfl Tryz.func225 (by kernel_rfl)).trans (Mt ..)
def f182 (aa:ak) (N:Nat) (a0:T) (a1:T) (s:St):Option (T×St) :=
 bd (az a1) fun t11 =>
 bd (af .sub t11 (I .i64 1)) fun t12 =>
 bd (av 1 a1 t12) fun t13 =>
 bd (ab t13 s.get) fun t14 =>
 ax (aa 223 [t14] s) fun t15 s1 =>
 bd (ah t15 0) fun t16 =>
 bd (ah t15 1) fun t17 =>
 jn (bd (av 1 a1 (I .i64 0)) fun t20 =>
 bd (ab t20 s1.get) fun t21 =>
 bd (af .eql t21 (Z (.str [107,101,101,112]))) fun t22 =>
 bd (gT (gd t22 true) (some a1)) fun t24 =>
 bd (gT (gd t22 true) (az t24)) fun t25 =>
 bd (gT (gd t22 true) (af .eql t25 (I .i64 3))) fun t26 =>
 bd (aC t22 t26 (B false)) fun t27 =>
 jn (br t27 (ax (aa 225 [] s1) fun t28 s2 =>
 bd (av 1 a1 (I .i64 1)) fun t30 =>
 bd (ab t30 s2.get) fun t31 =>
 ax (aa 224 [t28,t31] s2) fun t32 s3 =>
 ck ((decide (ab t30 s1.get=ab t30 s2.get)&&true)&&true) (bd (af .lss t32 (I .i64 0)) fun t34 =>
 bd (gT (gd t34 false) (some t17)) fun t36 =>
 bd (gT (gd t34 false) (jZ .not t36)) fun t37 =>
 bd (gT (gd t34 false) (some t37)) fun t38 =>
 bd (gT (gd t38 true) (some a1)) fun t39 =>
 bd (gT (gd t38 true) (av 1 t39 (I .i64 2))) fun t40 =>
 bd (gT (gd t38 true) (ab t40 s3.get)) fun t41 =>
 bd (gT (gd t38 true) (af .neq t41 (Z (.str [101,118,101,114])))) fun t42 =>
 bd (gT (gd t34 false) (aC t38 t42 (B false))) fun t43 =>
 bd (aC t34 (B true) t43) fun t44 =>
 br t44 (some (.ret (B false),s3))
 (bd (bg a0) fun t48 =>
 bd (ae 0 t48) fun t49 =>
 bd (bz 4 1 t49 t32) fun t50 =>
 ax (aw 1 t50 t16 s3) fun _ s4 =>
 some (.normal [],s4))))
 (bd (av 1 a1 (I .i64 0)) fun t53 =>
 bd (ab t53 s1.get) fun t54 =>
 bd (af .eql t54 (Z (.str [115,101,97,108]))) fun t55 =>
 bd (gT (gd t55 true) (some a1)) fun t57 =>
 bd (gT (gd t55 true) (az t57)) fun t58 =>
 bd (gT (gd t55 true) (af .eql t58 (I .i64 2))) fun t59 =>
 bd (aC t55 t59 (B false)) fun t60 =>
 bd (gT (gd t60 true) (some t17)) fun t62 =>
 bd (aC t60 t62 (B false)) fun t63 =>
 jn (br t63 (bd (bg a0) fun t66 =>
 bd (ae 4 t66) fun t67 =>
 ax (aw 1 t67 t16 s1) fun _ s5 =>
 some (.normal [],s5))
 (bd (av 1 a1 (I .i64 0)) fun t70 =>
 bd (ab t70 s1.get) fun t71 =>
 bd (af .eql t71 (Z (.str [115,112,97,110]))) fun t72 =>
 bd (gT (gd t72 true) (some a1)) fun t74 =>
 bd (gT (gd t72 true) (az t74)) fun t75 =>
 bd (gT (gd t72 true) (af .eql t75 (I .i64 2))) fun t76 =>
 bd (aC t72 t76 (B false)) fun t77 =>
 bd (gT (gd t77 true) (some t17)) fun t79 =>
 bd (aC t77 t79 (B false)) fun t80 =>
 br t80 (bd (bg a0) fun t83 =>
 bd (ae 5 t83) fun t84 =>
 ax (aw 1 t84 t16 s1) fun _ s6 =>
 some (.normal [],s6))
 (some (.ret (B false),s1))))
 (fun v7 s8=>some (.normal [],s8))
 (fun i9 v7 s8=>some (.exit i9 v7,s8))
 (fun oR s8=>some (.ret oR,s8))))
 (fun v11 bW=>some (.normal [],bW))
 (fun i13 v11 bW=>if i13=0 then some (.normal v11,bW) else some (.exit i13 v11,bW))
 (fun vg bW=>some (.ret vg,bW)))
 (fun o7 fV=>some ((B true),fV))
 (fun i17 o7 fV=>none)
 (fun Fv fV=>some (Fv,fV))
theorem Mc (aa:ak) (N:Nat) (a0:T) (a1:T) (s:St):aR Tryz.prog aa N Tryz.f182 [a0,a1] s=f182 aa N a0 a1 s:=by kernel_rfl
theorem HM (d:Nat) (a0:T) (a1:T) (s:St):R (d+1) 182 [a0,a1] s=f182 (R d) 8192 a0 a1 s:=(au rfl Tryz.func182 (by kernel_rfl)).trans (Mc ..)
def gC (aa:ak) (N:Nat) (v:List T) (s:St):Option (JO×St) :=
 bd (af .lss (v.getD 2 .any) (I .i64 4)) fun t9 =>
 br t9 (jn (bd (nh none 4 1 (v.getD 1 .any) (v.getD 2 .any)) fun t11 =>
 bd (af .lss t11 (I .i64 0)) fun t13 =>
 bd (gT (gd t13 false) (some t11)) fun t15 =>
 bd (gT (gd t13 false) (af .gtr t15 (I .i64 1099511627776))) fun t16 =>
 bd (aC t13 (B true) t16) fun t17 =>
 br t17 (some (.ret (B false),s))
 (bd (af .eql (v.getD 2 .any) (I .i64 0)) fun t19 =>
 br t19 (some (.normal [(v.getD 0 .any),(v.getD 1 .any),(v.getD 2 .any)],s))
 (bd (af .sub (v.getD 2 .any) (I .i64 1)) fun t21 =>
 bd (ae 0 (v.getD 0 .any)) fun t22 =>
 bd (bz 4 1 t22 t21) fun t23 =>
 bd (ab t23 s.get) fun t24 =>
 bd (af .neq t11 (I .i64 0)) fun t26 =>
 bd (gT (gd t26 true) (some t11)) fun t28 =>
 bd (gT (gd t26 true) (some t24)) fun t29 =>
 bd (gT (gd t26 true) (af .lss t28 t29)) fun t30 =>
 bd (gT (gd t26 true) (some t30)) fun t31 =>
 bd (gT (gd t31 false) (some t24)) fun t32 =>
 bd (gT (gd t31 false) (af .eql t32 (I .i64 0))) fun t33 =>
 bd (gT (gd t26 true) (aC t31 (B true) t33)) fun t34 =>
 bd (aC t26 t34 (B false)) fun t35 =>
 br t35 (some (.ret (B false),s))
 (some (.normal [(v.getD 0 .any),(v.getD 1 .any),(v.getD 2 .any)],s)))))
 (fun v2 s3=>bd (af .add (v2.getD 2 .any) (I .i64 1)) fun t36 =>
 some (.normal [(v2.getD 0 .any),(v2.getD 1 .any),t36],s3))
 (fun i4 v2 s3=>some (.exit i4 v2,s3))
 (fun r5 s3=>some (.ret r5,s3)))
 (some (.exit 0 [(v.getD 0 .any)],s))
def f184 (aa:ak) (N:Nat) (a0:T) (s:St):Option (T×St) :=
 ax (aL s (cf a0)) fun t1 s1 =>
 bd (ae 0 t1) fun t6 =>
 bd (aH 4 t6 s1.get) fun t7 =>
 jn (jn (loops (gC aa N) N [t1,t7,(I .i64 0)] s1)
 (fun v6 s7=>some (.normal [.any],s7))
 (fun i8 v6 s7=>if i8=0 then some (.normal v6,s7) else some (.exit i8 v6,s7))
 (fun r9 s7=>some (.ret r9,s7)))
 (fun v10 bO=>bd (ae 0 (v10.getD 0 .any)) fun t37 =>
 bd (bz 4 1 t37 (I .i64 3)) fun t38 =>
 bd (ab t38 bO.get) fun t39 =>
 bd (af .eql t39 (I .i64 0)) fun t40 =>
 bd (gT (gd t40 true) (ae 4 (v10.getD 0 .any))) fun t42 =>
 bd (gT (gd t40 true) (ab t42 bO.get)) fun t43 =>
 bd (gT (gd t40 true) (af .geq t43 (I .i64 1))) fun t44 =>
 bd (aC t40 t44 (B false)) fun t45 =>
 bd (gT (gd t45 true) (ae 4 (v10.getD 0 .any))) fun t47 =>
 bd (gT (gd t45 true) (ab t47 bO.get)) fun t48 =>
 bd (gT (gd t45 true) (af .leq t48 (I .i64 64))) fun t49 =>
 bd (aC t45 t49 (B false)) fun t50 =>
 bd (gT (gd t50 true) (ae 5 (v10.getD 0 .any))) fun t52 =>
 bd (gT (gd t50 true) (ab t52 bO.get)) fun t53 =>
 bd (gT (gd t50 true) (af .geq t53 (I .i64 1))) fun t54 =>
 bd (aC t50 t54 (B false)) fun t55 =>
 bd (gT (gd t55 true) (ae 5 (v10.getD 0 .any))) fun t57 =>
 bd (gT (gd t55 true) (ab t57 bO.get)) fun t58 =>
 bd (gT (gd t55 true) (af .leq t58 (I .i64 200))) fun t59 =>
 bd (aC t55 t59 (B false)) fun t60 =>
 some (t60,bO))
 (fun i12 v10 bO=>none)
 (fun rN bO=>some (rN,bO))
theorem Me (aa:ak) (N:Nat) (a0:T) (s:St):aR Tryz.prog aa N Tryz.f184 [a0] s=f184 aa N a0 s:=by kernel_rfl
theorem HO (d:Nat) (a0:T) (s:St):R (d+1) 184 [a0] s=f184 (R d) 8192 a0 s:=(au rfl Tryz.func184 (by kernel_rfl)).trans (Me ..)
def mv (aa:ak) (N:Nat) (v:List T) (s:St):Option (JO×St) :=
 bd (af .lss (v.getD 10 .any) (v.getD 9 .any)) fun t32 =>
 br t32 (jn (bd (av 1 (v.getD 8 .any) (v.getD 10 .any)) fun t33 =>
 bd (ab t33 s.get) fun t34 =>
 bd (af .neq t34 (Z (.str []))) fun t36 =>
 jn (br t36 (ax (aL s (aS 1 (aG [.str []] [(0,1,t34)]))) fun t39 s8 =>
 ax (aJ 1 16 (v.getD 4 .any) t39 s8) fun t40 s9 =>
 some (.normal [(v.getD 0 .any),(v.getD 1 .any),(v.getD 2 .any),(v.getD 3 .any),t40,(v.getD 5 .any),(v.getD 6 .any),(v.getD 7 .any),(v.getD 8 .any),(v.getD 9 .any),(v.getD 10 .any)],s9))
 (some (.normal [(v.getD 0 .any),(v.getD 1 .any),(v.getD 2 .any),(v.getD 3 .any),(v.getD 4 .any),(v.getD 5 .any),(v.getD 6 .any),(v.getD 7 .any),(v.getD 8 .any),(v.getD 9 .any),(v.getD 10 .any)],s)))
 (fun v10 bO=>some (.normal [(v10.getD 0 .any),(v10.getD 1 .any),(v10.getD 2 .any),(v10.getD 3 .any),(v10.getD 4 .any),(v10.getD 5 .any),(v10.getD 6 .any),(v10.getD 7 .any),(v10.getD 8 .any),(v10.getD 9 .any),(v10.getD 10 .any)],bO))
 (fun i12 v10 bO=>if i12=3 then some (.normal v10,bO) else some (.exit i12 v10,bO))
 (fun rN bO=>some (.ret rN,bO)))
 (fun jt gv=>bd (af .add (jt.getD 10 .any) (I .i64 1)) fun t41 =>
 some (.normal [(jt.getD 0 .any),(jt.getD 1 .any),(jt.getD 2 .any),(jt.getD 3 .any),(jt.getD 4 .any),(jt.getD 5 .any),(jt.getD 6 .any),(jt.getD 7 .any),(jt.getD 8 .any),(jt.getD 9 .any),t41],gv))
 (fun i16 jt gv=>some (.exit i16 jt,gv))
 (fun Fu gv=>some (.ret Fu,gv)))
 (some (.exit 2 [(v.getD 0 .any),(v.getD 1 .any),(v.getD 2 .any),(v.getD 3 .any),(v.getD 4 .any),(v.getD 5 .any),(v.getD 6 .any),(v.getD 7 .any)],s))
def kj (aa:ak) (N:Nat) (v:List T) (s:St):Option (JO×St) :=
 bd (af .lss (v.getD 5 .any) (v.getD 4 .any)) fun t18 =>
 br t18 (jn (bd (av 1 (v.getD 3 .any) (v.getD 5 .any)) fun t20 =>
 bd (ab t20 s.get) fun t21 =>
 ax (aa 180 [t21,(Z (.str [35]))] s) fun t24 s6 =>
 bd (ah t24 0) fun t25 =>
 bd (ah t24 1) fun t26 =>
 bd (ah t24 2) fun t27 =>
 ax (aa 179 [t25,(Z (.str [32]))] s6) fun t29 s7 =>
 bd (az t29) fun t30 =>
 jn (jn (loops (mv aa N) N [(v.getD 0 .any),(v.getD 1 .any),(v.getD 2 .any),(v.getD 5 .any),(Z .ay),(v.getD 3 .any),(v.getD 4 .any),(v.getD 5 .any),t29,t30,(I .i64 0)] s7)
 (fun ng mf=>some (.normal [.any,.any,.any,.any,.any,.any,.any,.any],mf))
 (fun i20 ng mf=>if i20=2 then some (.normal ng,mf) else some (.exit i20 ng,mf))
 (fun JX mf=>some (.ret JX,mf)))
 (fun v22 na=>bd (az (v22.getD 4 .any)) fun t43 =>
 bd (af .eql t43 (I .i64 0)) fun t44 =>
 br t44 (some (.normal [(v22.getD 0 .any),(v22.getD 1 .any),(v22.getD 2 .any),(v22.getD 5 .any),(v22.getD 6 .any),(v22.getD 7 .any)],na))
 (bd (az (v22.getD 4 .any)) fun t47 =>
 bd (af .sub t47 (I .i64 1)) fun t48 =>
 bd (aB 1 (v22.getD 4 .any) none (some t48) none) fun t49 =>
 ax (aa 181 [t49,(Z (.str [32]))] na) fun t50 mL =>
 ax (aa 182 [(v22.getD 1 .any),(v22.getD 4 .any)] mL) fun t52 sC =>
 bd (jZ .not t52) fun t53 =>
 bd (gT (gd t53 false) (some (v22.getD 2 .any))) fun t55 =>
 bd (gT (gd t53 false) (some t50)) fun t56 =>
 ax (gS (gd t53 false) sC (aa 183 [t55,t56] sC)) fun t57 yT =>
 bd (aC t53 (B true) t57) fun t58 =>
 br t58 (bd (aU (aG [.int .i64 0,.int .i64 0,.int .i64 0,.int .i64 0,.int .i64 0,.int .i64 0] [])) fun t59 =>
 bd (af .add (v22.getD 3 .any) (I .i64 1)) fun t61 =>
 ax (aw 6 (v22.getD 0 .any) t59 yT) fun _ nH =>
 bd (rC (aH 6 (v22.getD 0 .any) nH.get) (rT (I .i64 4) (rT t61 (some [])))) fun l30=>bd (aQ l30) fun JZ =>
 some (.ret JZ,nH))
 (ax (aL yT (aS 1 (aG [.str []] [(0,1,t50)]))) fun t64 VA =>
 ax (aJ 1 16 (v22.getD 2 .any) t64 VA) fun t65 sD =>
 some (.normal [(v22.getD 0 .any),(v22.getD 1 .any),t65,(v22.getD 5 .any),(v22.getD 6 .any),(v22.getD 7 .any)],sD))))
 (fun i24 v22 na=>if i24=1 then some (.normal v22,na) else some (.exit i24 v22,na))
 (fun Oz na=>some (.ret Oz,na)))
 (fun CZ DV=>bd (af .add (CZ.getD 5 .any) (I .i64 1)) fun t66 =>
 some (.normal [(CZ.getD 0 .any),(CZ.getD 1 .any),(CZ.getD 2 .any),(CZ.getD 3 .any),(CZ.getD 4 .any),t66],DV))
 (fun i36 CZ DV=>some (.exit i36 CZ,DV))
 (fun Vv DV=>some (.ret Vv,DV)))
 (some (.exit 0 [(v.getD 0 .any),(v.getD 1 .any)],s))
def f137 (aa:ak) (N:Nat) (a0:T) (s:St):Option (T×St) :=
 ax (aL s (bb [.int .i64 0,.int .i64 0,.int .i64 0,.int .i64 0,.int .i64 0,.int .i64 0])) fun t2 s1 =>
 ax (aa 91 [] s1) fun t13 s2 =>
 ax (aL s2 (bb [.int .i64 0,.int .i64 0,.int .i64 0,.int .i64 0,.int .i64 0,.int .i64 0])) fun t5 s3 =>
 ax (aw 6 t5 t13 s3) fun _ s4 =>
 ax (aa 179 [a0,(Z (.str [10]))] s4) fun t15 s5 =>
 bd (az t15) fun t16 =>
 jn (jn (loops (kj aa N) N [t2,t5,(Z .ay),t15,t16,(I .i64 0)] s5)
 (fun Kx Fz=>some (.normal [.any,.any],Fz))
 (fun i40 Kx Fz=>if i40=0 then some (.normal Kx,Fz) else some (.exit i40 Kx,Fz))
 (fun Vw Fz=>some (.ret Vw,Fz)))
 (fun rE AF=>bd (aH 6 (rE.getD 1 .any) AF.get) fun t67 =>
 ax (aa 184 [t67] AF) fun t68 Br =>
 bd (jZ .not t68) fun t69 =>
 br t69 (bd (aU (aG [.int .i64 0,.int .i64 0,.int .i64 0,.int .i64 0,.int .i64 0,.int .i64 0] [])) fun t70 =>
 ax (aw 6 (rE.getD 0 .any) t70 Br) fun _ Gi =>
 bd (rC (aH 6 (rE.getD 0 .any) Gi.get) (rT (I .i64 5) (rT (I .i64 0) (some [])))) fun l48=>bd (aQ l48) fun r49 =>
 some (r49,Gi))
 (bd (aH 6 (rE.getD 1 .any) Br.get) fun t71 =>
 ax (aw 6 (rE.getD 0 .any) t71 Br) fun _ OJ =>
 bd (rC (aH 6 (rE.getD 0 .any) OJ.get) (rT (I .i64 0) (rT (I .i64 0) (some [])))) fun l51=>bd (aQ l51) fun r52 =>
 some (r52,OJ)))
 (fun i44 rE AF=>none)
 (fun ZN AF=>some (ZN,AF))
theorem LJ (aa:ak) (N:Nat) (a0:T) (s:St):aR Tryz.prog aa N Tryz.f137 [a0] s=f137 aa N a0 s:=by kernel_rfl
theorem Hr (d:Nat) (a0:T) (s:St):R (d+1) 137 [a0] s=f137 (R d) 8192 a0 s:=(au rfl Tryz.func137 (by kernel_rfl)).trans (LJ ..)
def f91 (aa:ak) (N:Nat) (s:St):Option (T×St) :=
 ax (aL s (bb [.int .i64 0,.int .i64 0,.int .i64 0,.int .i64 0,.int .i64 0,.int .i64 0])) fun t0 s1 =>
 bd (aU (aG [.int .i64 0,.int .i64 0,.int .i64 0,.int .i64 0] [(0,1,(I .i64 60)),(1,1,(I .i64 600)),(2,1,(I .i64 6000)),(3,1,(I .i64 0))])) fun t1 =>
 bd (aU (aG [.int .i64 0,.int .i64 0,.int .i64 0,.int .i64 0,.int .i64 0,.int .i64 0] [(0,4,t1),(4,1,(I .i64 8)),(5,1,(I .i64 30))])) fun t2 =>
 ax (aw 6 t0 t2 s1) fun _ s2 =>
 bd (rC (aH 6 t0 s2.get) (some [])) fun l3=>bd (aQ l3) fun r4 =>
 some (r4,s2)
theorem QV (aa:ak) (N:Nat) (s:St):aR Tryz.prog aa N Tryz.f91 [] s=f91 aa N s:=by kernel_rfl
theorem M5 (d:Nat) (s:St):R (d+1) 91 [] s=f91 (R d) 8192 s:=(au rfl Tryz.func91 (by kernel_rfl)).trans (QV ..)
end
noncomputable section
def oc (aa:ak) (N:Nat) (v:List T) (s:St):Option (JO×St) :=
 bd (af .geq (v.getD 0 .any) (I .u64 128)) fun t5 =>
 br t5 (jn (bd (aI .u8 (v.getD 0 .any)) fun t8 =>
 bd (af .or t8 (I .u8 128)) fun t9 =>
 ax (aL s (aS 1 (aG [.int .u8 0] [(0,1,t9)]))) fun t10 s1 =>
 ax (aJ 1 1 (v.getD 1 .any) t10 s1) fun t11 s2 =>
 bd (af .shr (v.getD 0 .any) (I .u64 7)) fun t13 =>
 some (.normal [t13,t11],s2))
 (fun v3 s4=>some (.normal [(v3.getD 0 .any),(v3.getD 1 .any)],s4))
 (fun i5 v3 s4=>some (.exit i5 v3,s4))
 (fun r6 s4=>some (.ret r6,s4)))
 (some (.exit 0 [(v.getD 0 .any),(v.getD 1 .any)],s))
def f159 (aa:ak) (N:Nat) (a0:T) (s:St):Option (T×St) :=
 jn (jn (loops (oc aa N) N [a0,(Z .ay)] s)
 (fun v7 s8=>some (.normal [.any,.any],s8))
 (fun i9 v7 s8=>if i9=0 then some (.normal v7,s8) else some (.exit i9 v7,s8))
 (fun oR s8=>some (.ret oR,s8)))
 (fun v11 bW=>bd (aI .u8 (v11.getD 0 .any)) fun t16 =>
 ax (aL bW (aS 1 (aG [.int .u8 0] [(0,1,t16)]))) fun t17 gv =>
 ax (aJ 1 1 (v11.getD 1 .any) t17 gv) fun t18 fV =>
 some (t18,fV))
 (fun i13 v11 bW=>none)
 (fun vg bW=>some (vg,bW))
theorem LV (aa:ak) (N:Nat) (a0:T) (s:St):aR Tryz.prog aa N Tryz.f159 [a0] s=f159 aa N a0 s:=by kernel_rfl
theorem Hx (d:Nat) (a0:T) (s:St):R (d+1) 159 [a0] s=f159 (R d) 8192 a0 s:=(au rfl Tryz.func159 (by kernel_rfl)).trans (LV ..)
def ie (aa:ak) (N:Nat) (v:List T) (s:St):Option (JO×St) :=
 bd (af .lss (v.getD 3 .any) (I .i64 10)) fun t20 =>
 br t20 (jn (bd (af .add (v.getD 1 .any) (v.getD 3 .any)) fun t24 =>
 bd (az (v.getD 0 .any)) fun t26 =>
 bd (af .geq t24 t26) fun t27 =>
 br t27 (some (.exit 0 [(v.getD 1 .any)],s))
 (bd (af .add (v.getD 1 .any) (v.getD 3 .any)) fun t31 =>
 bd (av 1 (v.getD 0 .any) t31) fun t32 =>
 bd (ab t32 s.get) fun t33 =>
 bd (af .eql (v.getD 3 .any) (I .i64 9)) fun t35 =>
 bd (gT (gd t35 true) (some t33)) fun t37 =>
 bd (gT (gd t35 true) (af .gtr t37 (I .u8 1))) fun t38 =>
 bd (aC t35 t38 (B false)) fun t39 =>
 br t39 (some (.exit 0 [(v.getD 1 .any)],s))
 (bd (af .and t33 (I .u8 127)) fun t42 =>
 bd (aI .u64 t42) fun t43 =>
 bd (af .mul (I .i64 7) (v.getD 3 .any)) fun t45 =>
 bd (aI .u64 t45) fun t46 =>
 bd (af .shl t43 t46) fun t47 =>
 bd (af .or (v.getD 2 .any) t47) fun t48 =>
 jn (bd (af .geq t33 (I .u8 128)) fun t51 =>
 br t51 (some (.exit 1 [(v.getD 0 .any),(v.getD 1 .any),t48,(v.getD 3 .any)],s))
 (bd (af .gtr (v.getD 3 .any) (I .i64 0)) fun t54 =>
 bd (gT (gd t54 true) (some t33)) fun t56 =>
 bd (gT (gd t54 true) (af .eql t56 (I .u8 0))) fun t57 =>
 bd (aC t54 t57 (B false)) fun t58 =>
 br t58 (some (.exit 0 [(v.getD 1 .any)],s))
 (some (.normal [(v.getD 1 .any),t48,(v.getD 3 .any)],s))))
 (fun v2 s3=>bd (af .add (v2.getD 0 .any) (v2.getD 2 .any)) fun t62 =>
 bd (af .add t62 (I .i64 1)) fun t63 =>
 bd (aQ [(v2.getD 1 .any),t63,(I .i64 0)]) fun r6 =>
 some (.ret r6,s3))
 (fun i4 v2 s3=>if i4=1 then some (.normal v2,s3) else some (.exit i4 v2,s3))
 (fun r5 s3=>some (.ret r5,s3)))))
 (fun v7 s8=>bd (af .add (v7.getD 3 .any) (I .i64 1)) fun t64 =>
 some (.normal [(v7.getD 0 .any),(v7.getD 1 .any),(v7.getD 2 .any),t64],s8))
 (fun i9 v7 s8=>some (.exit i9 v7,s8))
 (fun oR s8=>some (.ret oR,s8)))
 (some (.exit 0 [(v.getD 1 .any)],s))
def f118 (aa:ak) (N:Nat) (a0:T) (a1:T) (s:St):Option (T×St) :=
 bd (af .lss a1 (I .i64 0)) fun t11 =>
 bd (gT (gd t11 false) (some a1)) fun t13 =>
 bd (gT (gd t11 false) (some a0)) fun t14 =>
 bd (gT (gd t11 false) (az t14)) fun t15 =>
 bd (gT (gd t11 false) (af .gtr t13 t15)) fun t16 =>
 bd (aC t11 (B true) t16) fun t17 =>
 br t17 (bd (aQ [(I .u64 0),a1,(I .i64 1)]) fun r1 =>
 some (r1,s))
 (jn (jn (loops (ie aa N) N [a0,a1,(I .u64 0),(I .i64 0)] s)
 (fun v11 bW=>some (.normal [.any],bW))
 (fun i13 v11 bW=>if i13=0 then some (.normal v11,bW) else some (.exit i13 v11,bW))
 (fun vg bW=>some (.ret vg,bW)))
 (fun o7 fV=>bd (aQ [(I .u64 0),(o7.getD 0 .any),(I .i64 2)]) fun ym =>
 some (ym,fV))
 (fun i17 o7 fV=>none)
 (fun Fv fV=>some (Fv,fV)))
theorem Lu (aa:ak) (N:Nat) (a0:T) (a1:T) (s:St):aR Tryz.prog aa N Tryz.f118 [a0,a1] s=f118 aa N a0 a1 s:=by kernel_rfl
theorem Hh (d:Nat) (a0:T) (a1:T) (s:St):R (d+1) 118 [a0,a1] s=f118 (R d) 8192 a0 a1 s:=(au rfl Tryz.func118 (by kernel_rfl)).trans (Lu ..)
def f161 (aa:ak) (N:Nat) (a0:T) (s:St):Option (T×St) :=
 ax (aa 174 [(I .u32 1),a0] s) fun t4 s1 =>
 some (t4,s1)
theorem LX (aa:ak) (N:Nat) (a0:T) (s:St):aR Tryz.prog aa N Tryz.f161 [a0] s=f161 aa N a0 s:=by kernel_rfl
theorem Hz (d:Nat) (a0:T) (s:St):R (d+1) 161 [a0] s=f161 (R d) 8192 a0 s:=(au rfl Tryz.func161 (by kernel_rfl)).trans (LX ..)
def ku (aa:ak) (N:Nat) (v:List T) (s:St):Option (JO×St) :=
 bd (af .lss (v.getD 3 .any) (v.getD 2 .any)) fun t14 =>
 br t14 (jn (bd (av 1 (v.getD 1 .any) (v.getD 3 .any)) fun t15 =>
 bd (ab t15 s.get) fun t16 =>
 bd (af .mul (v.getD 0 .any) (I .u64 257)) fun t18 =>
 bd (aI .u64 t16) fun t20 =>
 bd (af .add t18 t20) fun t21 =>
 bd (af .add t21 (I .u64 1)) fun t22 =>
 bd (af .rem t22 (I .u64 4294967291)) fun t23 =>
 some (.normal [t23,(v.getD 1 .any),(v.getD 2 .any),(v.getD 3 .any)],s))
 (fun v1 s2=>bd (af .add (v1.getD 3 .any) (I .i64 1)) fun t24 =>
 some (.normal [(v1.getD 0 .any),(v1.getD 1 .any),(v1.getD 2 .any),t24],s2))
 (fun i3 v1 s2=>some (.exit i3 v1,s2))
 (fun r4 s2=>some (.ret r4,s2)))
 (some (.exit 0 [(v.getD 0 .any)],s))
def f174 (aa:ak) (N:Nat) (a0:T) (a1:T) (s:St):Option (T×St) :=
 bd (aI .u64 a0) fun t9 =>
 bd (af .rem t9 (I .u64 4294967291)) fun t10 =>
 bd (az a1) fun t12 =>
 jn (jn (loops (ku aa N) N [t10,a1,t12,(I .i64 0)] s)
 (fun v5 s6=>some (.normal [.any],s6))
 (fun i7 v5 s6=>if i7=0 then some (.normal v5,s6) else some (.exit i7 v5,s6))
 (fun r8 s6=>some (.ret r8,s6)))
 (fun v9 bM=>bd (aI .u32 (v9.getD 0 .any)) fun t26 =>
 some (t26,bM))
 (fun i11 v9 bM=>none)
 (fun vf bM=>some (vf,bM))
theorem L6 (aa:ak) (N:Nat) (a0:T) (a1:T) (s:St):aR Tryz.prog aa N Tryz.f174 [a0,a1] s=f174 aa N a0 a1 s:=by kernel_rfl
theorem zD (d:Nat) (a0:T) (a1:T) (s:St):R (d+1) 174 [a0,a1] s=f174 (R d) 8192 a0 a1 s:=(au rfl Tryz.func174 (by kernel_rfl)).trans (L6 ..)
def oa (aa:ak) (N:Nat) (v:List T) (s:St):Option (JO×St) :=
 bd (af .lss (v.getD 3 .any) (v.getD 2 .any)) fun t14 =>
 br t14 (jn (bd (av 1 (v.getD 0 .any) (v.getD 3 .any)) fun t18 =>
 bd (ab t18 s.get) fun t19 =>
 bd (av 1 (v.getD 1 .any) (v.getD 3 .any)) fun t22 =>
 bd (ab t22 s.get) fun t23 =>
 bd (af .neq t19 t23) fun t24 =>
 br t24 (some (.ret (B false),s))
 (some (.normal [(v.getD 0 .any),(v.getD 1 .any),(v.getD 2 .any),(v.getD 3 .any)],s)))
 (fun v1 s2=>bd (af .add (v1.getD 3 .any) (I .i64 1)) fun t25 =>
 some (.normal [(v1.getD 0 .any),(v1.getD 1 .any),(v1.getD 2 .any),t25],s2))
 (fun i3 v1 s2=>some (.exit i3 v1,s2))
 (fun r4 s2=>some (.ret r4,s2)))
 (some (.exit 0 [],s))
def f130 (aa:ak) (N:Nat) (a0:T) (a1:T) (s:St):Option (T×St) :=
 bd (az a0) fun t7 =>
 bd (az a1) fun t9 =>
 bd (af .neq t7 t9) fun t10 =>
 br t10 (some ((B false),s))
 (bd (az a0) fun t12 =>
 jn (jn (loops (oa aa N) N [a0,a1,t12,(I .i64 0)] s)
 (fun v5 s6=>some (.normal [],s6))
 (fun i7 v5 s6=>if i7=0 then some (.normal v5,s6) else some (.exit i7 v5,s6))
 (fun r8 s6=>some (.ret r8,s6)))
 (fun v9 bM=>some ((B true),bM))
 (fun i11 v9 bM=>none)
 (fun vf bM=>some (vf,bM)))
theorem LB (aa:ak) (N:Nat) (a0:T) (a1:T) (s:St):aR Tryz.prog aa N Tryz.f130 [a0,a1] s=f130 aa N a0 a1 s:=by kernel_rfl
theorem Hn (d:Nat) (a0:T) (a1:T) (s:St):R (d+1) 130 [a0,a1] s=f130 (R d) 8192 a0 a1 s:=(au rfl Tryz.func130 (by kernel_rfl)).trans (LB ..)
def f122 (aa:ak) (N:Nat) (a0:T) (a1:T) (s:St):Option (T×St) :=
 bd (bR a0 s.get) fun t6 =>
 bd (bR a1 s.get) fun t8 =>
 bd (af .eql t6 t8) fun t9 =>
 some (t9,s)
theorem Lx (aa:ak) (N:Nat) (a0:T) (a1:T) (s:St):aR Tryz.prog aa N Tryz.f122 [a0,a1] s=f122 aa N a0 a1 s:=by kernel_rfl
theorem Hk (d:Nat) (a0:T) (a1:T) (s:St):R (d+1) 122 [a0,a1] s=f122 (R d) 8192 a0 a1 s:=(au rfl Tryz.func122 (by kernel_rfl)).trans (Lx ..)
def f92 (aa:ak) (N:Nat) (a0:T) (s:St):Option (T×St) :=
 bd (fT .l a0 (Z .ay)) fun t4 =>
 br t4 (some ((Z .ay),s))
 (ax (aL s (aS 0 (aG [] []))) fun t5 s1 =>
 ax (aJ 1 1 t5 a0 s1) fun t7 s2 =>
 some (t7,s2))
theorem QW (aa:ak) (N:Nat) (a0:T) (s:St):aR Tryz.prog aa N Tryz.f92 [a0] s=f92 aa N a0 s:=by kernel_rfl
theorem M6 (d:Nat) (a0:T) (s:St):R (d+1) 92 [a0] s=f92 (R d) 8192 a0 s:=(au rfl Tryz.func92 (by kernel_rfl)).trans (QW ..)
def f173 (aa:ak) (N:Nat) (a0:T) (s:St):Option (T×St) :=
 bd (aI .u8 a0) fun t4 =>
 bd (af .shr a0 (I .u64 8)) fun t6 =>
 bd (aI .u8 t6) fun t7 =>
 bd (af .shr a0 (I .u64 16)) fun t9 =>
 bd (aI .u8 t9) fun t10 =>
 bd (af .shr a0 (I .u64 24)) fun t12 =>
 bd (aI .u8 t12) fun t13 =>
 ax (aL s (aS 4 (aG [.int .u8 0,.int .u8 0,.int .u8 0,.int .u8 0] [(0,1,t4),(1,1,t7),(2,1,t10),(3,1,t13)]))) fun t14 s1 =>
 some (t14,s1)
theorem L3 (aa:ak) (N:Nat) (a0:T) (s:St):aR Tryz.prog aa N Tryz.f173 [a0] s=f173 aa N a0 s:=by kernel_rfl
theorem HD (d:Nat) (a0:T) (s:St):R (d+1) 173 [a0] s=f173 (R d) 8192 a0 s:=(au rfl Tryz.func173 (by kernel_rfl)).trans (L3 ..)
def rW (aa:ak) (N:Nat) (v:List T) (s:St):Option (JO×St) :=
 bd (af .lss (v.getD 4 .any) (v.getD 3 .any)) fun t12 =>
 br t12 (jn (bd (av 1 (v.getD 2 .any) (v.getD 4 .any)) fun t13 =>
 bd (ab t13 s.get) fun t14 =>
 bd (az t14) fun t17 =>
 bd (af .add (v.getD 1 .any) t17) fun t18 =>
 bd (af .lss t18 (I .i64 0)) fun t20 =>
 jn (br t20 (bd ((none:Option T)) fun t21 =>
 bd ((none:Option T)) fun u1 =>
 some (.normal [(v.getD 0 .any),t18,(v.getD 2 .any),(v.getD 3 .any),(v.getD 4 .any)],s))
 (some (.normal [(v.getD 0 .any),t18,(v.getD 2 .any),(v.getD 3 .any),(v.getD 4 .any)],s)))
 (fun v2 s3=>some (.normal [(v2.getD 0 .any),(v2.getD 1 .any),(v2.getD 2 .any),(v2.getD 3 .any),(v2.getD 4 .any)],s3))
 (fun i4 v2 s3=>if i4=1 then some (.normal v2,s3) else some (.exit i4 v2,s3))
 (fun r5 s3=>some (.ret r5,s3)))
 (fun v6 s7=>bd (af .add (v6.getD 4 .any) (I .i64 1)) fun t22 =>
 some (.normal [(v6.getD 0 .any),(v6.getD 1 .any),(v6.getD 2 .any),(v6.getD 3 .any),t22],s7))
 (fun i8 v6 s7=>some (.exit i8 v6,s7))
 (fun r9 s7=>some (.ret r9,s7)))
 (some (.exit 0 [(v.getD 0 .any),(v.getD 1 .any)],s))
def rX (aa:ak) (N:Nat) (v:List T) (s:St):Option (JO×St) :=
 bd (af .lss (v.getD 3 .any) (v.getD 2 .any)) fun t28 =>
 br t28 (jn (bd (av 1 (v.getD 1 .any) (v.getD 3 .any)) fun t29 =>
 bd (ab t29 s.get) fun t30 =>
 ax (aJ 1 1 (v.getD 0 .any) t30 s) fun t33 mf =>
 some (.normal [t33,(v.getD 1 .any),(v.getD 2 .any),(v.getD 3 .any)],mf))
 (fun v20 kU=>bd (af .add (v20.getD 3 .any) (I .i64 1)) fun t34 =>
 some (.normal [(v20.getD 0 .any),(v20.getD 1 .any),(v20.getD 2 .any),t34],kU))
 (fun i22 v20 kU=>some (.exit i22 v20,kU))
 (fun Sc kU=>some (.ret Sc,kU)))
 (some (.exit 2 [(v.getD 0 .any)],s))
def f172 (aa:ak) (N:Nat) (a0:T) (s:St):Option (T×St) :=
 bd (az a0) fun t10 =>
 jn (jn (loops (rW aa N) N [a0,(I .i64 0),a0,t10,(I .i64 0)] s)
 (fun v10 bO=>some (.normal [.any,.any],bO))
 (fun i12 v10 bO=>if i12=0 then some (.normal v10,bO) else some (.exit i12 v10,bO))
 (fun rN bO=>some (.ret rN,bO)))
 (fun jt gv=>ax (aa 216 [(Z .ay),(jt.getD 1 .any)] gv) fun t24 gV =>
 bd (az (jt.getD 0 .any)) fun t26 =>
 jn (jn (loops (rX aa N) N [t24,(jt.getD 0 .any),t26,(I .i64 0)] gV)
 (fun v24 kV=>some (.normal [.any],kV))
 (fun i26 v24 kV=>if i26=2 then some (.normal v24,kV) else some (.exit i26 v24,kV))
 (fun Vu kV=>some (.ret Vu,kV)))
 (fun v28 nH=>some ((v28.getD 0 .any),nH))
 (fun i30 v28 nH=>none)
 (fun JZ nH=>some (JZ,nH)))
 (fun i16 jt gv=>none)
 (fun Fu gv=>some (Fu,gv))
theorem L0 (aa:ak) (N:Nat) (a0:T) (s:St):aR Tryz.prog aa N Tryz.f172 [a0] s=f172 aa N a0 s:=by kernel_rfl
theorem HC (d:Nat) (a0:T) (s:St):R (d+1) 172 [a0] s=f172 (R d) 8192 a0 s:=(au rfl Tryz.func172 (by kernel_rfl)).trans (L0 ..)
def f216 (aa:ak) (N:Nat) (a0:T) (a1:T) (s:St):Option (T×St) :=
 bd (af .lss a1 (I .i64 0)) fun t6 =>
 jn (br t6 (bd ((none:Option T)) fun t7 =>
 bd ((none:Option T)) fun u1 =>
 some (.normal [a0,a1],s))
 (some (.normal [a0,a1],s)))
 (fun v2 s3=>bd (zc (v2.getD 0 .any)) fun t10 =>
 bd (az (v2.getD 0 .any)) fun t12 =>
 bd (af .sub t10 t12) fun t13 =>
 bd (af .sub (v2.getD 1 .any) t13) fun t14 =>
 bd (af .gtr t14 (I .i64 0)) fun t16 =>
 jn (br t16 (bd (zc (v2.getD 0 .any)) fun t19 =>
 bd (aB 1 (v2.getD 0 .any) none (some t19) none) fun t20 =>
 ax (lG 1 1 [.int .u8 0] t20 t14 s3) fun t22 s6 =>
 bd (az (v2.getD 0 .any)) fun t24 =>
 bd (aB 1 t22 none (some t24) none) fun t25 =>
 some (.normal [t25],s6))
 (some (.normal [(v2.getD 0 .any)],s3)))
 (fun v7 s8=>some ((v7.getD 0 .any),s8))
 (fun i9 v7 s8=>none)
 (fun oR s8=>some (oR,s8)))
 (fun i4 v2 s3=>none)
 (fun r5 s3=>some (r5,s3))
theorem Mn (aa:ak) (N:Nat) (a0:T) (a1:T) (s:St):aR Tryz.prog aa N Tryz.f216 [a0,a1] s=f216 aa N a0 a1 s:=by kernel_rfl
theorem HV (d:Nat) (a0:T) (a1:T) (s:St):R (d+1) 216 [a0,a1] s=f216 (R d) 8192 a0 a1 s:=(au rfl Tryz.func216 (by kernel_rfl)).trans (Mn ..)
end
noncomputable section
def f193 (aa:ak) (N:Nat) (a0:T) (s:St):Option (T×St) :=
 bd (af .geq a0 (I .i64 1)) fun t4 =>
 bd (gT (gd t4 true) (some a0)) fun t6 =>
 bd (gT (gd t4 true) (af .leq t6 (I .i64 1073741824))) fun t7 =>
 bd (aC t4 t7 (B false)) fun t8 =>
 some (t8,s)
theorem Mg (aa:ak) (N:Nat) (a0:T) (s:St):aR Tryz.prog aa N Tryz.f193 [a0] s=f193 aa N a0 s:=by kernel_rfl
theorem HQ (d:Nat) (a0:T) (s:St):R (d+1) 193 [a0] s=f193 (R d) 8192 a0 s:=(au rfl Tryz.func193 (by kernel_rfl)).trans (Mg ..)
def f149 (aa:ak) (N:Nat) (a0:T) (s:St):Option (T×St) :=
 ax (aL s (cf a0)) fun t1 s1 =>
 bd (ae 1 t1) fun t6 =>
 bd (ab t6 s1.get) fun t7 =>
 bd (af .lss t7 (I .i64 0)) fun t8 =>
 bd (gT (gd t8 false) (ae 1 t1)) fun t10 =>
 bd (gT (gd t8 false) (ab t10 s1.get)) fun t11 =>
 bd (gT (gd t8 false) (af .gtr t11 (I .i64 1073741824))) fun t12 =>
 bd (aC t8 (B true) t12) fun t13 =>
 br t13 (some ((B false),s1))
 (bd (ae 0 t1) fun t14 =>
 bd (ab t14 s1.get) fun t15 =>
 jn (bd (af .eql t15 (I .i64 1)) fun t17 =>
 br t17 (bd (ae 7 t1) fun t18 =>
 bd (ab t18 s1.get) fun t19 =>
 bd (af .eql t19 (Z (.str []))) fun t20 =>
 bd (gT (gd t20 true) (ae 2 t1)) fun t22 =>
 bd (gT (gd t20 true) (ab t22 s1.get)) fun t23 =>
 ax (gS (gd t20 true) s1 (aa 193 [t23] s1)) fun t24 s2 =>
 bd (aC t20 t24 (B false)) fun t25 =>
 bd (gT (gd t25 true) (ae 3 t1)) fun t27 =>
 bd (gT (gd t25 true) (ab t27 s2.get)) fun t28 =>
 bd (gT (gd t25 true) (af .geq t28 (I .i64 0))) fun t29 =>
 bd (aC t25 t29 (B false)) fun t30 =>
 bd (gT (gd t30 true) (ae 3 t1)) fun t32 =>
 bd (gT (gd t30 true) (ab t32 s2.get)) fun t33 =>
 bd (gT (gd t30 true) (af .lss t33 (I .i64 4))) fun t34 =>
 bd (aC t30 t34 (B false)) fun t35 =>
 bd (gT (gd t35 true) (ae 4 t1)) fun t37 =>
 bd (gT (gd t35 true) (ab t37 s2.get)) fun t38 =>
 bd (gT (gd t35 true) (af .geq t38 (I .i64 0))) fun t39 =>
 bd (aC t35 t39 (B false)) fun t40 =>
 bd (gT (gd t40 true) (ae 4 t1)) fun t42 =>
 bd (gT (gd t40 true) (ab t42 s2.get)) fun t43 =>
 bd (gT (gd t40 true) (ae 5 t1)) fun t44 =>
 bd (gT (gd t40 true) (ab t44 s2.get)) fun t45 =>
 bd (gT (gd t40 true) (af .lss t43 t45)) fun t46 =>
 bd (aC t40 t46 (B false)) fun t47 =>
 bd (gT (gd t47 true) (ae 5 t1)) fun t49 =>
 bd (gT (gd t47 true) (ab t49 s2.get)) fun t50 =>
 bd (gT (gd t47 true) (af .leq t50 (I .i64 1099511627776))) fun t51 =>
 bd (aC t47 t51 (B false)) fun t52 =>
 some (.ret t52,s2))
 (bd (af .eql t15 (I .i64 2)) fun t54 =>
 br t54 (bd (ae 2 t1) fun t55 =>
 bd (ab t55 s1.get) fun t56 =>
 ax (aa 193 [t56] s1) fun t57 s3 =>
 bd (gT (gd t57 true) (aH 8 t1 s3.get)) fun t59 =>
 bd (gT (gd t57 true) (ae 1 t1)) fun t60 =>
 bd (gT (gd t57 true) (ab t60 s3.get)) fun t61 =>
 bd (gT (gd t57 true) (ae 2 t1)) fun t62 =>
 bd (gT (gd t57 true) (ab t62 s3.get)) fun t63 =>
 bd (gT (gd t57 true) (aU (aG [.int .i64 0,.int .i64 0,.int .i64 0,.int .i64 0,.int .i64 0,.int .i64 0,.int .u32 0,.str []] [(0,1,(I .i64 2)),(1,1,t61),(2,1,t63)]))) fun t64 =>
 bd (gT (gd t57 true) (fT (.a 8 [(0,.i),(1,.i),(2,.i),(3,.i),(4,.i),(5,.i),(6,.i),(7,.s)]) t59 t64)) fun t65 =>
 bd (aC t57 t65 (B false)) fun t66 =>
 some (.ret t66,s3))
 (bd (af .eql t15 (I .i64 3)) fun t68 =>
 br t68 (bd (ae 1 t1) fun t69 =>
 bd (ab t69 s1.get) fun t70 =>
 bd (af .gtr t70 (I .i64 0)) fun t71 =>
 bd (gT (gd t71 true) (aH 8 t1 s1.get)) fun t73 =>
 bd (gT (gd t71 true) (ae 1 t1)) fun t74 =>
 bd (gT (gd t71 true) (ab t74 s1.get)) fun t75 =>
 bd (gT (gd t71 true) (aU (aG [.int .i64 0,.int .i64 0,.int .i64 0,.int .i64 0,.int .i64 0,.int .i64 0,.int .u32 0,.str []] [(0,1,(I .i64 3)),(1,1,t75)]))) fun t76 =>
 bd (gT (gd t71 true) (fT (.a 8 [(0,.i),(1,.i),(2,.i),(3,.i),(4,.i),(5,.i),(6,.i),(7,.s)]) t73 t76)) fun t77 =>
 bd (aC t71 t77 (B false)) fun t78 =>
 some (.ret t78,s1))
 (bd (af .eql t15 (I .i64 4)) fun t80 =>
 br t80 (bd (ae 7 t1) fun t81 =>
 bd (ab t81 s1.get) fun t82 =>
 bd (bN t82) fun t83 =>
 bd (af .gtr t83 (I .i64 300)) fun t84 =>
 bd (gT (gd t84 false) (aH 8 t1 s1.get)) fun t86 =>
 bd (gT (gd t84 false) (ae 1 t1)) fun t87 =>
 bd (gT (gd t84 false) (ab t87 s1.get)) fun t88 =>
 bd (gT (gd t84 false) (ae 7 t1)) fun t89 =>
 bd (gT (gd t84 false) (ab t89 s1.get)) fun t90 =>
 bd (gT (gd t84 false) (aU (aG [.int .i64 0,.int .i64 0,.int .i64 0,.int .i64 0,.int .i64 0,.int .i64 0,.int .u32 0,.str []] [(0,1,(I .i64 4)),(1,1,t88),(7,1,t90)]))) fun t91 =>
 bd (gT (gd t84 false) (Bn (.a 8 [(0,.i),(1,.i),(2,.i),(3,.i),(4,.i),(5,.i),(6,.i),(7,.s)]) t86 t91)) fun t92 =>
 bd (aC t84 (B true) t92) fun t93 =>
 br t93 (some (.ret (B false),s1))
 (bd (ae 7 t1) fun t95 =>
 bd (ab t95 s1.get) fun t96 =>
 ax (aa 137 [t96] s1) fun t97 s4 =>
 bd (ah t97 0) fun t98 =>
 bd (ah t97 1) fun t99 =>
 bd (ah t97 2) fun t100 =>
 ax (aL s4 (bb [.int .i64 0,.int .i64 0,.int .i64 0,.int .i64 0,.int .i64 0,.int .i64 0])) fun t3 s5 =>
 ax (aw 6 t3 t98 s5) fun _ s6 =>
 bd (af .eql t99 (I .i64 0)) fun t102 =>
 some (.ret t102,s6)))
 (some (.normal [],s1))))))
 (fun v7 s8=>some ((B false),s8))
 (fun i9 v7 s8=>none)
 (fun oR s8=>some (oR,s8)))
theorem LM (aa:ak) (N:Nat) (a0:T) (s:St):aR Tryz.prog aa N Tryz.f149 [a0] s=f149 aa N a0 s:=by kernel_rfl
theorem Hs (d:Nat) (a0:T) (s:St):R (d+1) 149 [a0] s=f149 (R d) 8192 a0 s:=(au rfl Tryz.func149 (by kernel_rfl)).trans (LM ..)
def gB (aa:ak) (N:Nat) (v:List T) (s:St):Option (JO×St) :=
 bd (af .lss (v.getD 4 .any) (v.getD 3 .any)) fun t56 =>
 br t56 (jn (bd (av 1 (v.getD 2 .any) (v.getD 4 .any)) fun t57 =>
 bd (ab t57 s.get) fun t58 =>
 ax (aa 159 [t58] s) fun t61 mL =>
 ax (aJ 1 1 (v.getD 1 .any) t61 mL) fun t62 sC =>
 some (.normal [(v.getD 0 .any),t62,(v.getD 2 .any),(v.getD 3 .any),(v.getD 4 .any)],sC))
 (fun v28 nH=>bd (af .add (v28.getD 4 .any) (I .i64 1)) fun t63 =>
 some (.normal [(v28.getD 0 .any),(v28.getD 1 .any),(v28.getD 2 .any),(v28.getD 3 .any),t63],nH))
 (fun i30 v28 nH=>some (.exit i30 v28,nH))
 (fun JZ nH=>some (.ret JZ,nH)))
 (some (.exit 1 [(v.getD 0 .any),(v.getD 1 .any)],s))
def f133 (aa:ak) (N:Nat) (a0:T) (s:St):Option (T×St) :=
 ax (aL s (cf a0)) fun t1 s1 =>
 bd (aH 8 t1 s1.get) fun t8 =>
 ax (aa 149 [t8] s1) fun t9 s2 =>
 bd (jZ .not t9) fun t10 =>
 br t10 (bd (aQ [(Z .ay),(I .i64 1)]) fun r3 =>
 some (r3,s2))
 (bd (ae 0 t1) fun t11 =>
 bd (ab t11 s2.get) fun t12 =>
 bd (aI .u8 t12) fun t13 =>
 ax (aL s2 (aS 1 (aG [.int .u8 0] [(0,1,t13)]))) fun t14 s4 =>
 bd (ae 1 t1) fun t15 =>
 bd (ab t15 s4.get) fun t16 =>
 bd (aI .u64 t16) fun t17 =>
 ax (aa 159 [t17] s4) fun t18 s5 =>
 ax (aJ 1 1 t14 t18 s5) fun t19 s6 =>
 ck ((decide (ab t11 (cA 8 s5.get (Cx 3 s2.size (aS 1 (aG [.int .u8 0] [(0,1,t13)])) []))=ab t11 s2.get)&&true)&&true) (bd (ae 0 t1) fun t20 =>
 bd (ab t20 s6.get) fun t21 =>
 jn (bd (af .eql t21 (I .i64 1)) fun t23 =>
 jn (br t23 (bd (ae 2 t1) fun t24 =>
 bd (ab t24 s6.get) fun t25 =>
 bd (aI .u64 t25) fun t26 =>
 bd (ae 3 t1) fun t27 =>
 bd (ab t27 s6.get) fun t28 =>
 bd (aI .u64 t28) fun t29 =>
 bd (ae 4 t1) fun t30 =>
 bd (ab t30 s6.get) fun t31 =>
 bd (aI .u64 t31) fun t32 =>
 bd (ae 5 t1) fun t33 =>
 bd (ab t33 s6.get) fun t34 =>
 bd (aI .u64 t34) fun t35 =>
 bd (ae 6 t1) fun t36 =>
 bd (ab t36 s6.get) fun t37 =>
 bd (aI .u64 t37) fun t38 =>
 ax (aL s6 (aS 5 (aG [.int .u64 0,.int .u64 0,.int .u64 0,.int .u64 0,.int .u64 0] [(0,1,t26),(1,1,t29),(2,1,t32),(3,1,t35),(4,1,t38)]))) fun t39 s7 =>
 some (.normal [t1,t19,t39],s7))
 (bd (af .eql t21 (I .i64 2)) fun t41 =>
 jn (br t41 (bd (ae 2 t1) fun t42 =>
 bd (ab t42 s6.get) fun t43 =>
 bd (aI .u64 t43) fun t44 =>
 ax (aL s6 (aS 1 (aG [.int .u64 0] [(0,1,t44)]))) fun t45 s8 =>
 some (.normal [t1,t19,t45],s8))
 (bd (af .eql t21 (I .i64 4)) fun t47 =>
 jn (br t47 (bd (ae 7 t1) fun t48 =>
 bd (ab t48 s6.get) fun t49 =>
 bd (bN t49) fun t50 =>
 bd (aI .u64 t50) fun t51 =>
 ax (aL s6 (aS 1 (aG [.int .u64 0] [(0,1,t51)]))) fun t52 s9 =>
 some (.normal [t1,t19,t52],s9))
 (some (.normal [t1,t19,(Z .ay)],s6)))
 (fun v10 bO=>some (.normal [(v10.getD 0 .any),(v10.getD 1 .any),(v10.getD 2 .any)],bO))
 (fun i12 v10 bO=>some (.exit i12 v10,bO))
 (fun rN bO=>some (.ret rN,bO))))
 (fun jt gv=>some (.normal [(jt.getD 0 .any),(jt.getD 1 .any),(jt.getD 2 .any)],gv))
 (fun i16 jt gv=>some (.exit i16 jt,gv))
 (fun Fu gv=>some (.ret Fu,gv))))
 (fun ng mf=>some (.normal [(ng.getD 0 .any),(ng.getD 1 .any),(ng.getD 2 .any)],mf))
 (fun i20 ng mf=>if i20=0 then some (.normal ng,mf) else some (.exit i20 ng,mf))
 (fun JX mf=>some (.ret JX,mf)))
 (fun v22 na=>bd (az (v22.getD 2 .any)) fun t54 =>
 jn (jn (loops (gB aa N) N [(v22.getD 0 .any),(v22.getD 1 .any),(v22.getD 2 .any),t54,(I .i64 0)] na)
 (fun v32 sD=>some (.normal [.any,.any],sD))
 (fun i34 v32 sD=>if i34=1 then some (.normal v32,sD) else some (.exit i34 v32,sD))
 (fun ZI sD=>some (.ret ZI,sD)))
 (fun v36 KV=>bd (ae 7 (v36.getD 0 .any)) fun t65 =>
 bd (ab t65 KV.get) fun t66 =>
 ax (aJ 1 1 (v36.getD 1 .any) t66 KV) fun t67 Bq =>
 bd (aQ [t67,(I .i64 0)]) fun Vw =>
 some (Vw,Bq))
 (fun i38 v36 KV=>none)
 (fun ZK KV=>some (ZK,KV)))
 (fun i24 v22 na=>none)
 (fun Oz na=>some (Oz,na))))
theorem LF (aa:ak) (N:Nat) (a0:T) (s:St):aR Tryz.prog aa N Tryz.f133 [a0] s=f133 aa N a0 s:=by kernel_rfl
theorem zB (d:Nat) (a0:T) (s:St):R (d+1) 133 [a0] s=f133 (R d) 8192 a0 s:=(au rfl Tryz.func133 (by kernel_rfl)).trans (LF ..)
def f94 (aa:ak) (N:Nat) (a0:T) (s:St):Option (T×St) :=
 ax (aL s (cf a0)) fun t1 s1 =>
 ax (aL s1 (bb [.int .i64 0,.int .i64 0,.int .i64 0,.int .i64 0,.int .i64 0,.int .i64 0,.int .u32 0,.str []])) fun t2 s2 =>
 bd (ab t1 s2.get) fun t11 =>
 bd (az t11) fun t12 =>
 bd (af .eql t12 (I .i64 0)) fun t13 =>
 br t13 (bd (aU (aG [.int .i64 0,.int .i64 0,.int .i64 0,.int .i64 0,.int .i64 0,.int .i64 0,.int .u32 0,.str []] [])) fun t14 =>
 ax (aw 8 t2 t14 s2) fun _ s3 =>
 bd (rC (aH 8 t2 s3.get) (rT (I .i64 2) (some []))) fun l4=>bd (aQ l4) fun r5 =>
 some (r5,s3))
 (ax (aL s2 (bb [.int .i64 0])) fun t4 s6 =>
 ax (aL s6 (bb [.bool false])) fun t5 s7 =>
 ax (aw 1 t4 (I .i64 1) s7) fun _ s8 =>
 ax (aw 1 t5 (B false) s8) fun _ s9 =>
 bd (rG 132 [t1,t4,t5] []) fun t15 =>
 bd (ab t1 s9.get) fun t16 =>
 bd (av 1 t16 (I .i64 0)) fun t17 =>
 bd (ab t17 s9.get) fun t18 =>
 bd (aI .i64 t18) fun t19 =>
 ax (dyn Tryz.prog aa t15 [(I .u64 1073741824)] s9) fun t21 bM =>
 bd (aU (aG [.int .i64 0,.int .i64 0,.int .i64 0,.int .i64 0,.int .i64 0,.int .i64 0,.int .u32 0,.str []] [(0,1,t19),(1,1,t21)])) fun t22 =>
 ax (aL bM (bb [.int .i64 0,.int .i64 0,.int .i64 0,.int .i64 0,.int .i64 0,.int .i64 0,.int .u32 0,.str []])) fun t7 bO =>
 ax (aw 8 t7 t22 bO) fun _ bW =>
 ck ((decide (ab t1 (rP (bM.get) bM.size (.cells true [.int .i64 0,.int .i64 0,.int .i64 0,.int .i64 0,.int .i64 0,.int .i64 0,.int .u32 0,.str []]))=ab t1 s9.get)&&true)&&((decide (ab t17 (rP (bM.get) bM.size (.cells true [.int .i64 0,.int .i64 0,.int .i64 0,.int .i64 0,.int .i64 0,.int .i64 0,.int .u32 0,.str []]))=ab t17 s9.get)&&true)&&true)) (bd (ae 0 t7) fun t23 =>
 bd (ab t23 bW.get) fun t24 =>
 jn (bd (af .eql t24 (I .i64 1)) fun t26 =>
 jn (br t26 (ax (dyn Tryz.prog aa t15 [(I .u64 1073741824)] bW) fun t28 dX =>
 ax (dyn Tryz.prog aa t15 [(I .u64 4)] dX) fun t30 fR =>
 bd (ae 2 t7) fun t31 =>
 ax (aw 1 t31 t28 fR) fun _ gv =>
 bd (ae 3 t7) fun t32 =>
 ax (aw 1 t32 t30 gv) fun _ fV =>
 ax (dyn Tryz.prog aa t15 [(I .u64 1099511627776)] fV) fun t34 iI =>
 ax (dyn Tryz.prog aa t15 [(I .u64 1099511627776)] iI) fun t36 gV =>
 bd (ae 4 t7) fun t37 =>
 ax (aw 1 t37 t34 gV) fun _ mf =>
 bd (ae 5 t7) fun t38 =>
 ax (aw 1 t38 t36 mf) fun _ mg =>
 ax (dyn Tryz.prog aa t15 [(I .u64 4294967295)] mg) fun t40 kU =>
 bd (aI .u32 t40) fun t41 =>
 bd (ae 6 t7) fun t42 =>
 ax (aw 1 t42 t41 kU) fun _ iZ =>
 some (.normal [t1,t2,t5,t7],iZ))
 (bd (af .eql t24 (I .i64 2)) fun t44 =>
 jn (br t44 (ax (dyn Tryz.prog aa t15 [(I .u64 1073741824)] bW) fun t46 na =>
 bd (ae 2 t7) fun t47 =>
 ax (aw 1 t47 t46 na) fun _ yS =>
 some (.normal [t1,t2,t5,t7],yS))
 (bd (af .eql t24 (I .i64 4)) fun t49 =>
 jn (br t49 (ax (dyn Tryz.prog aa t15 [(I .u64 300)] bW) fun t51 kV =>
 bd (ab t5 kV.get) fun t52 =>
 bd (gT (gd t52 false) (some t51)) fun t54 =>
 bd (gT (gd t52 false) (ab t1 kV.get)) fun t55 =>
 bd (gT (gd t52 false) (az t55)) fun t56 =>
 bd (gT (gd t52 false) (ab t4 kV.get)) fun t57 =>
 bd (gT (gd t52 false) (af .sub t56 t57)) fun t58 =>
 bd (gT (gd t52 false) (af .gtr t54 t58)) fun t59 =>
 bd (aC t52 (B true) t59) fun t60 =>
 br t60 (bd (aU (aG [.int .i64 0,.int .i64 0,.int .i64 0,.int .i64 0,.int .i64 0,.int .i64 0,.int .u32 0,.str []] [])) fun t61 =>
 ax (aw 8 t2 t61 kV) fun _ mL =>
 bd (rC (aH 8 t2 mL.get) (rT (I .i64 2) (some []))) fun l27=>bd (aQ l27) fun OA =>
 some (.ret OA,mL))
 (bd (ab t1 kV.get) fun t62 =>
 bd (ab t4 kV.get) fun t63 =>
 bd (ab t4 kV.get) fun t64 =>
 bd (af .add t64 t51) fun t66 =>
 bd (aB 1 t62 (some t63) (some t66) none) fun t67 =>
 bd (bR t67 kV.get) fun t68 =>
 bd (ae 7 t7) fun t69 =>
 ax (aw 1 t69 t68 kV) fun _ nH =>
 some (.normal [t1,t2,t5,t7],nH)))
 (some (.normal [t1,t2,t5,t7],bW)))
 (fun v30 wM=>some (.normal [(v30.getD 0 .any),(v30.getD 1 .any),(v30.getD 2 .any),(v30.getD 3 .any)],wM))
 (fun i32 v30 wM=>some (.exit i32 v30,wM))
 (fun ZH wM=>some (.ret ZH,wM))))
 (fun CZ DV=>some (.normal [(CZ.getD 0 .any),(CZ.getD 1 .any),(CZ.getD 2 .any),(CZ.getD 3 .any)],DV))
 (fun i36 CZ DV=>some (.exit i36 CZ,DV))
 (fun Vv DV=>some (.ret Vv,DV))))
 (fun Kx Fz=>some (.normal [(Kx.getD 0 .any),(Kx.getD 1 .any),(Kx.getD 2 .any),(Kx.getD 3 .any)],Fz))
 (fun i40 Kx Fz=>if i40=0 then some (.normal Kx,Fz) else some (.exit i40 Kx,Fz))
 (fun Vw Fz=>some (.ret Vw,Fz)))
 (fun rE AF=>bd (aH 8 (rE.getD 3 .any) AF.get) fun t71 =>
 ax (aa 133 [t71] AF) fun t72 Br =>
 bd (ah t72 0) fun t73 =>
 bd (ah t72 1) fun t74 =>
 bd (ab (rE.getD 2 .any) Br.get) fun t75 =>
 bd (gT (gd t75 false) (some t74)) fun t77 =>
 bd (gT (gd t75 false) (af .neq t77 (I .i64 0))) fun t78 =>
 bd (aC t75 (B true) t78) fun t79 =>
 bd (gT (gd t79 false) (some t73)) fun t81 =>
 bd (gT (gd t79 false) (ab (rE.getD 0 .any) Br.get)) fun t82 =>
 ax (gS (gd t79 false) Br (aa 122 [t81,t82] Br)) fun t83 Gi =>
 bd (gT (gd t79 false) (jZ .not t83)) fun t84 =>
 bd (aC t79 (B true) t84) fun t85 =>
 br t85 (bd (aU (aG [.int .i64 0,.int .i64 0,.int .i64 0,.int .i64 0,.int .i64 0,.int .i64 0,.int .u32 0,.str []] [])) fun t86 =>
 ax (aw 8 (rE.getD 1 .any) t86 Gi) fun _ Gj =>
 bd (rC (aH 8 (rE.getD 1 .any) Gj.get) (rT (I .i64 2) (some []))) fun Zd=>bd (aQ Zd) fun Vx =>
 some (Vx,Gj))
 (bd (aH 8 (rE.getD 3 .any) Gi.get) fun t87 =>
 ax (aw 8 (rE.getD 1 .any) t87 Gi) fun _ Sh =>
 bd (rC (aH 8 (rE.getD 1 .any) Sh.get) (rT (I .i64 0) (some []))) fun Ze=>bd (aQ Ze) fun ZP =>
 some (ZP,Sh)))
 (fun i44 rE AF=>none)
 (fun ZN AF=>some (ZN,AF))))
theorem QY (aa:ak) (N:Nat) (a0:T) (s:St):aR Tryz.prog aa N Tryz.f94 [a0] s=f94 aa N a0 s:=by kernel_rfl
theorem Na (d:Nat) (a0:T) (s:St):R (d+1) 94 [a0] s=f94 (R d) 8192 a0 s:=(au rfl Tryz.func94 (by kernel_rfl)).trans (QY ..)
def f132 (aa:ak) (N:Nat) (a0:T) (a1:T) (a2:T) (a3:T) (s:St):Option (T×St) :=
 bd (ab a1 s.get) fun t10 =>
 bd (ab a2 s.get) fun t11 =>
 ax (aa 118 [t10,t11] s) fun t12 s1 =>
 bd (ah t12 0) fun t13 =>
 bd (ah t12 1) fun t14 =>
 bd (ah t12 2) fun t15 =>
 bd (ab a3 s1.get) fun t16 =>
 bd (gT (gd t16 false) (some t15)) fun t18 =>
 bd (gT (gd t16 false) (af .neq t18 (I .i64 0))) fun t19 =>
 bd (aC t16 (B true) t19) fun t20 =>
 bd (gT (gd t20 false) (some t13)) fun t22 =>
 bd (gT (gd t20 false) (some a0)) fun t23 =>
 bd (gT (gd t20 false) (af .gtr t22 t23)) fun t24 =>
 bd (aC t20 (B true) t24) fun t25 =>
 ax (aw 1 a3 t25 s1) fun _ s2 =>
 ax (aw 1 a2 t14 s2) fun _ s3 =>
 bd (kM nQ t13 [a0]) fun t29 =>
 bd (aI .i64 t29) fun t30 =>
 some (t30,s3)
theorem LD (aa:ak) (N:Nat) (a0:T) (a1:T) (a2:T) (a3:T) (s:St):aR Tryz.prog aa N Tryz.f132 [a0,a1,a2,a3] s=f132 aa N a0 a1 a2 a3 s:=by kernel_rfl
theorem Hp (d:Nat) (a0:T) (a1:T) (a2:T) (a3:T) (s:St):R (d+1) 132 [a0,a1,a2,a3] s=f132 (R d) 8192 a0 a1 a2 a3 s:=(au rfl Tryz.func132 (by kernel_rfl)).trans (LD ..)
def nZ (aa:ak) (N:Nat) (v:List T) (s:St):Option (JO×St) :=
 bd (af .lss (v.getD 4 .any) (v.getD 3 .any)) fun t14 =>
 br t14 (jn (bd (av 8 (v.getD 2 .any) (v.getD 4 .any)) fun t15 =>
 bd (aH 8 t15 s.get) fun t16 =>
 ax (aL s (bb [.int .i64 0,.int .i64 0,.int .i64 0,.int .i64 0,.int .i64 0,.int .i64 0,.int .u32 0,.str []])) fun t8 s3 =>
 ax (aw 8 t8 t16 s3) fun _ s4 =>
 bd (aH 8 t8 s4.get) fun t18 =>
 ax (aa 96 [(v.getD 1 .any),t18] s4) fun t19 s5 =>
 bd (af .neq t19 (I .i64 0)) fun t21 =>
 br t21 (bd (aU (aG [.int .i64 0,.int .i64 0,.int .i64 0,.int .i64 0,.int .i64 0,.int .i64 0] [])) fun t22 =>
 ax (aw 6 (v.getD 0 .any) t22 s5) fun _ s6 =>
 bd (rT (Z .ay) (rC (aH 6 (v.getD 0 .any) s6.get) (rT (I .i64 0) (rT t19 (some []))))) fun l7=>bd (aQ l7) fun r8 =>
 some (.ret r8,s6))
 (some (.normal [(v.getD 0 .any),(v.getD 1 .any),(v.getD 2 .any),(v.getD 3 .any),(v.getD 4 .any)],s5)))
 (fun v9 bM=>bd (af .add (v9.getD 4 .any) (I .i64 1)) fun t24 =>
 some (.normal [(v9.getD 0 .any),(v9.getD 1 .any),(v9.getD 2 .any),(v9.getD 3 .any),t24],bM))
 (fun i11 v9 bM=>some (.exit i11 v9,bM))
 (fun vf bM=>some (.ret vf,bM)))
 (some (.exit 0 [(v.getD 0 .any),(v.getD 1 .any)],s))
def f126 (aa:ak) (N:Nat) (a0:T) (s:St):Option (T×St) :=
 ax (aL s (bb [.int .i64 0,.int .i64 0,.int .i64 0,.int .i64 0,.int .i64 0,.int .i64 0])) fun t3 s1 =>
 ax (aa 41 [] s1) fun t10 s2 =>
 bd (az a0) fun t12 =>
 jn (jn (loops (nZ aa N) N [t3,t10,a0,t12,(I .i64 0)] s2)
 (fun lB fR=>some (.normal [.any,.any],fR))
 (fun i15 lB fR=>if i15=0 then some (.normal lB,fR) else some (.exit i15 lB,fR))
 (fun r16 fR=>some (.ret r16,fR)))
 (fun jF gV=>ax (aa 48 [(jF.getD 1 .any)] gV) fun t26 kU =>
 bd (bg (jF.getD 1 .any)) fun t28 =>
 bd (ae 2 t28) fun t29 =>
 bd (aH 6 t29 kU.get) fun t30 =>
 bd (bg (jF.getD 1 .any)) fun t32 =>
 bd (ae 8 t32) fun t33 =>
 bd (ab t33 kU.get) fun t34 =>
 ax (aw 6 (jF.getD 0 .any) t30 kU) fun _ iZ =>
 ck ((decide (aH 6 t29 gV.get=aH 6 t29 kU.get)&&true)&&((decide (ab t33 gV.get=ab t33 kU.get)&&(decide (ab t33 iZ.get=ab t33 kU.get)&&true))&&true)) (bd (rT t26 (rC (aH 6 (jF.getD 0 .any) iZ.get) (rT t34 (rT (I .i64 0) (some []))))) fun l23=>bd (aQ l23) fun JY =>
 some (JY,iZ)))
 (fun i19 jF gV=>none)
 (fun CF gV=>some (CF,gV))
theorem Lz (aa:ak) (N:Nat) (a0:T) (s:St):aR Tryz.prog aa N Tryz.f126 [a0] s=f126 aa N a0 s:=by kernel_rfl
theorem Hl (d:Nat) (a0:T) (s:St):R (d+1) 126 [a0] s=f126 (R d) 8192 a0 s:=(au rfl Tryz.func126 (by kernel_rfl)).trans (Lz ..)
def f41 (aa:ak) (N:Nat) (s:St):Option (T×St) :=
 ax (aL s (N7)) fun t1 s1 =>
 ax (aa 91 [] s1) fun t2 s2 =>
 bd (aU (aG [.ay,.mU,.int .i64 0,.int .i64 0,.int .i64 0,.int .i64 0,.int .i64 0,.int .i64 0,.int .i64 0,.int .i64 0] [(1,1,t1),(2,6,t2)])) fun t3 =>
 ax (aL s2 (cf t3)) fun t4 s3 =>
 some (t4,s3)
theorem Qu (aa:ak) (N:Nat) (s:St):aR Tryz.prog aa N Tryz.f41 [] s=f41 aa N s:=by kernel_rfl
theorem ME (d:Nat) (s:St):R (d+1) 41 [] s=f41 (R d) 8192 s:=(au rfl Tryz.func41 (by kernel_rfl)).trans (Qu ..)
def f134 (aa:ak) (N:Nat) (a0:T) (a1:T) (s:St):Option (T×St) :=
 bd (bg a0) fun t7 =>
 bd (ae 0 t7) fun t8 =>
 bd (ab t8 s.get) fun t9 =>
 ax (aa 175 [t9,a1,(Z (.iY 176 []))] s) fun t11 s1 =>
 bd (ah t11 0) fun t12 =>
 bd (ah t11 1) fun t13 =>
 bd (aQ [t12,t13]) fun r2 =>
 some (r2,s1)
theorem LG (aa:ak) (N:Nat) (a0:T) (a1:T) (s:St):aR Tryz.prog aa N Tryz.f134 [a0,a1] s=f134 aa N a0 a1 s:=by kernel_rfl
theorem Hq (d:Nat) (a0:T) (a1:T) (s:St):R (d+1) 134 [a0,a1] s=f134 (R d) 8192 a0 a1 s:=(au rfl Tryz.func134 (by kernel_rfl)).trans (LG ..)
def f110 (aa:ak) (N:Nat) (a0:T) (a1:T) (s:St):Option (T×St) :=
 ax (aL s (cf a1)) fun t3 s1 =>
 bd (ae 2 t3) fun t9 =>
 bd (ab t9 s1.get) fun t10 =>
 ax (aa 134 [a0,t10] s1) fun t11 s2 =>
 bd (ah t11 0) fun t12 =>
 bd (ah t11 1) fun t13 =>
 jn (bd (aH 8 t3 s2.get) fun t15 =>
 ax (aa 149 [t15] s2) fun t16 s3 =>
 bd (jZ .not t16) fun t17 =>
 br t17 (some (.ret (I .i64 1),s3))
 (bd (ae 0 t3) fun t19 =>
 bd (ab t19 s3.get) fun t20 =>
 bd (af .eql t20 (I .i64 1)) fun t21 =>
 bd (gT (gd t21 true) (some a0)) fun t23 =>
 bd (gT (gd t21 true) (bg t23)) fun t24 =>
 bd (gT (gd t21 true) (ae 1 t24)) fun t25 =>
 bd (gT (gd t21 true) (ab t25 s3.get)) fun t26 =>
 bd (gT (gd t21 true) (ae 2 t3)) fun t27 =>
 bd (gT (gd t21 true) (ab t27 s3.get)) fun t28 =>
 bd (gT (gd t21 true) (Go.Abs.F.look .i false (.s (.bool false)) t26 t28 s3.get)) fun t29 =>
 bd (aC t21 t29 (B false)) fun t30 =>
 br t30 (some (.ret (I .i64 7),s3))
 (bd (ae 0 t3) fun t32 =>
 bd (ab t32 s3.get) fun t33 =>
 bd (af .eql t33 (I .i64 2)) fun t34 =>
 bd (gT (gd t34 true) (some t13)) fun t36 =>
 bd (gT (gd t34 true) (jZ .not t36)) fun t37 =>
 bd (aC t34 t37 (B false)) fun t38 =>
 br t38 (some (.ret (I .i64 9),s3))
 (bd (ae 1 t3) fun t40 =>
 bd (ab t40 s3.get) fun t41 =>
 bd (bg a0) fun t43 =>
 bd (ae 9 t43) fun t44 =>
 bd (ab t44 s3.get) fun t45 =>
 bd (af .lss t41 t45) fun t46 =>
 br t46 (some (.ret (I .i64 12),s3))
 (some (.normal [],s3))))))
 (fun v4 s5=>some ((I .i64 0),s5))
 (fun i6 v4 s5=>none)
 (fun r7 s5=>some (r7,s5))
theorem Lq (aa:ak) (N:Nat) (a0:T) (a1:T) (s:St):aR Tryz.prog aa N Tryz.f110 [a0,a1] s=f110 aa N a0 a1 s:=by kernel_rfl
theorem Hd (d:Nat) (a0:T) (a1:T) (s:St):R (d+1) 110 [a0,a1] s=f110 (R d) 8192 a0 a1 s:=(au rfl Tryz.func110 (by kernel_rfl)).trans (Lq ..)
def f96 (aa:ak) (N:Nat) (a0:T) (a1:T) (s:St):Option (T×St) :=
 ax (aL s (cf a1)) fun t3 s1 =>
 bd (aH 8 t3 s1.get) fun t9 =>
 ax (aa 110 [a0,t9] s1) fun t10 s2 =>
 bd (af .neq t10 (I .i64 0)) fun t12 =>
 br t12 (some (t10,s2))
 (bd (ae 2 t3) fun t16 =>
 bd (ab t16 s2.get) fun t17 =>
 ax (aa 134 [a0,t17] s2) fun t18 s3 =>
 bd (ah t18 0) fun t19 =>
 bd (ah t18 1) fun t20 =>
 bd (ae 0 t3) fun t21 =>
 bd (ab t21 s3.get) fun t22 =>
 jn (bd (af .eql t22 (I .i64 1)) fun t24 =>
 jn (br t24 (bd (bg a0) fun t26 =>
 bd (ae 1 t26) fun t27 =>
 bd (ab t27 s3.get) fun t28 =>
 bd (ae 2 t3) fun t29 =>
 bd (ab t29 s3.get) fun t30 =>
 ax (Fc .i t28 t30 (B true) s3) fun _ s4 =>
 bd (bg a0) fun t33 =>
 bd (ae 0 t33) fun t34 =>
 bd (ab t34 s4.get) fun t35 =>
 bd (ae 2 t3) fun t37 =>
 bd (ab t37 s4.get) fun t38 =>
 bd (ae 3 t3) fun t39 =>
 bd (ab t39 s4.get) fun t40 =>
 bd (ae 4 t3) fun t41 =>
 bd (ab t41 s4.get) fun t42 =>
 bd (ae 5 t3) fun t43 =>
 bd (ab t43 s4.get) fun t44 =>
 bd (ae 6 t3) fun t45 =>
 bd (ab t45 s4.get) fun t46 =>
 bd (aU (aG [.int .i64 0,.int .i64 0,.int .i64 0,.int .i64 0,.int .u32 0] [(0,1,t38),(1,1,t40),(2,1,t42),(3,1,t44),(4,1,t46)])) fun t47 =>
 ax (aL s4 (aS 1 (aG [.int .i64 0,.int .i64 0,.int .i64 0,.int .i64 0,.int .u32 0] [(0,5,t47)]))) fun t48 s5 =>
 ax (aa 135 [t35,t19,t48] s5) fun t49 s6 =>
 bd (bg a0) fun t50 =>
 bd (ae 0 t50) fun t51 =>
 ax (aw 1 t51 t49 s6) fun _ s7 =>
 some (.normal [a0,t3],s7))
 (bd (af .eql t22 (I .i64 2)) fun t53 =>
 jn (br t53 (bd (bg a0) fun t56 =>
 bd (ae 0 t56) fun t57 =>
 bd (ab t57 s3.get) fun t58 =>
 bd (af .add t19 (I .i64 1)) fun t61 =>
 ax (aa 136 [t58,t19,t61] s3) fun t62 s8 =>
 bd (bg a0) fun t63 =>
 bd (ae 0 t63) fun t64 =>
 ax (aw 1 t64 t62 s8) fun _ s9 =>
 some (.normal [a0,t3],s9))
 (bd (af .eql t22 (I .i64 3)) fun t66 =>
 jn (br t66 (bd (ae 1 t3) fun t68 =>
 bd (ab t68 s3.get) fun t69 =>
 bd (bg a0) fun t70 =>
 bd (ae 8 t70) fun t71 =>
 ax (aw 1 t71 t69 s3) fun _ bM =>
 some (.normal [a0,t3],bM))
 (bd (af .eql t22 (I .i64 4)) fun t73 =>
 jn (br t73 (bd (ae 7 t3) fun t76 =>
 bd (ab t76 s3.get) fun t77 =>
 ax (aa 137 [t77] s3) fun t78 bO =>
 bd (ah t78 0) fun t79 =>
 bd (ah t78 1) fun t80 =>
 bd (ah t78 2) fun t81 =>
 bd (bg a0) fun t82 =>
 bd (ae 2 t82) fun t83 =>
 ax (aw 6 t83 t79 bO) fun _ bW =>
 some (.normal [a0,t3],bW))
 (some (.normal [a0,t3],s3)))
 (fun lB fR=>some (.normal [(lB.getD 0 .any),(lB.getD 1 .any)],fR))
 (fun i15 lB fR=>some (.exit i15 lB,fR))
 (fun r16 fR=>some (.ret r16,fR))))
 (fun jF gV=>some (.normal [(jF.getD 0 .any),(jF.getD 1 .any)],gV))
 (fun i19 jF gV=>some (.exit i19 jF,gV))
 (fun CF gV=>some (.ret CF,gV))))
 (fun v21 iZ=>some (.normal [(v21.getD 0 .any),(v21.getD 1 .any)],iZ))
 (fun i23 v21 iZ=>some (.exit i23 v21,iZ))
 (fun JY iZ=>some (.ret JY,iZ))))
 (fun v25 mL=>some (.normal [(v25.getD 0 .any),(v25.getD 1 .any)],mL))
 (fun i27 v25 mL=>if i27=0 then some (.normal v25,mL) else some (.exit i27 v25,mL))
 (fun OA mL=>some (.ret OA,mL)))
 (fun v29 rl=>bd (ae 1 (v29.getD 1 .any)) fun t85 =>
 bd (ab t85 rl.get) fun t86 =>
 bd (bg (v29.getD 0 .any)) fun t87 =>
 bd (ae 9 t87) fun t88 =>
 ax (aw 1 t88 t86 rl) fun _ sD =>
 some ((I .i64 0),sD))
 (fun i31 v29 rl=>none)
 (fun r32 rl=>some (r32,rl)))
theorem Q4 (aa:ak) (N:Nat) (a0:T) (a1:T) (s:St):aR Tryz.prog aa N Tryz.f96 [a0,a1] s=f96 aa N a0 a1 s:=by kernel_rfl
theorem Nc (d:Nat) (a0:T) (a1:T) (s:St):R (d+1) 96 [a0,a1] s=f96 (R d) 8192 a0 a1 s:=(au rfl Tryz.func96 (by kernel_rfl)).trans (Q4 ..)
def f48 (aa:ak) (N:Nat) (a0:T) (s:St):Option (T×St) :=
 bd (bg a0) fun t4 =>
 bd (ae 0 t4) fun t5 =>
 bd (ab t5 s.get) fun t6 =>
 ax (aa 97 [t6] s) fun t7 s1 =>
 some (t7,s1)
theorem QB (aa:ak) (N:Nat) (a0:T) (s:St):aR Tryz.prog aa N Tryz.f48 [a0] s=f48 aa N a0 s:=by kernel_rfl
theorem MJ (d:Nat) (a0:T) (s:St):R (d+1) 48 [a0] s=f48 (R d) 8192 a0 s:=(au rfl Tryz.func48 (by kernel_rfl)).trans (QB ..)
def f176 (aa:ak) (N:Nat) (a0:T) (a1:T) (s:St):Option (T×St) :=
 ax (aL s (cf a0)) fun t2 s1 =>
 bd (ae 0 t2) fun t5 =>
 bd (ab t5 s1.get) fun t6 =>
 bd (af .sub t6 a1) fun t8 =>
 some (t8,s1)
theorem L9 (aa:ak) (N:Nat) (a0:T) (a1:T) (s:St):aR Tryz.prog aa N Tryz.f176 [a0,a1] s=f176 aa N a0 a1 s:=by kernel_rfl
theorem HH (d:Nat) (a0:T) (a1:T) (s:St):R (d+1) 176 [a0,a1] s=f176 (R d) 8192 a0 a1 s:=(au rfl Tryz.func176 (by kernel_rfl)).trans (L9 ..)
end
noncomputable section
def f97 (aa:ak) (N:Nat) (a0:T) (s:St):Option (T×St) :=
 bd (fT .l a0 (Z .ay)) fun t4 =>
 br t4 (some ((Z .ay),s))
 (ax (aL s (aS 0 (aG [] []))) fun t5 s1 =>
 ax (aJ 5 40 t5 a0 s1) fun t7 s2 =>
 some (t7,s2))
theorem Q5 (aa:ak) (N:Nat) (a0:T) (s:St):aR Tryz.prog aa N Tryz.f97 [a0] s=f97 aa N a0 s:=by kernel_rfl
theorem Nd (d:Nat) (a0:T) (s:St):R (d+1) 97 [a0] s=f97 (R d) 8192 a0 s:=(au rfl Tryz.func97 (by kernel_rfl)).trans (Q5 ..)
def og (aa:ak) (N:Nat) (v:List T) (s:St):Option (JO×St) :=
 bd (af .lss (v.getD 4 .any) (v.getD 5 .any)) fun t17 =>
 br t17 (jn (bd (af .add (v.getD 4 .any) (v.getD 5 .any)) fun t20 =>
 bd (aI .u64 t20) fun t21 =>
 bd (af .shr t21 (I .u64 1)) fun t22 =>
 bd (aI .i64 t22) fun t23 =>
 bd (av 5 (v.getD 0 .any) t23) fun t27 =>
 bd (aH 5 t27 s.get) fun t28 =>
 ax (dyn Tryz.prog aa (v.getD 2 .any) [t28,(v.getD 1 .any)] s) fun t30 s1 =>
 bd (af .lss t30 (I .i64 0)) fun t31 =>
 jn (br t31 (bd (af .add t23 (I .i64 1)) fun t33 =>
 some (.normal [(v.getD 0 .any),(v.getD 1 .any),(v.getD 2 .any),(v.getD 3 .any),t33,(v.getD 5 .any)],s1))
 (some (.normal [(v.getD 0 .any),(v.getD 1 .any),(v.getD 2 .any),(v.getD 3 .any),(v.getD 4 .any),t23],s1)))
 (fun v2 s3=>some (.normal [(v2.getD 0 .any),(v2.getD 1 .any),(v2.getD 2 .any),(v2.getD 3 .any),(v2.getD 4 .any),(v2.getD 5 .any)],s3))
 (fun i4 v2 s3=>if i4=1 then some (.normal v2,s3) else some (.exit i4 v2,s3))
 (fun r5 s3=>some (.ret r5,s3)))
 (fun v6 s7=>some (.normal [(v6.getD 0 .any),(v6.getD 1 .any),(v6.getD 2 .any),(v6.getD 3 .any),(v6.getD 4 .any),(v6.getD 5 .any)],s7))
 (fun i8 v6 s7=>some (.exit i8 v6,s7))
 (fun r9 s7=>some (.ret r9,s7)))
 (some (.exit 0 [(v.getD 0 .any),(v.getD 1 .any),(v.getD 2 .any),(v.getD 3 .any),(v.getD 4 .any)],s))
def f175 (aa:ak) (N:Nat) (a0:T) (a1:T) (a2:T) (s:St):Option (T×St) :=
 bd (az a0) fun t13 =>
 jn (jn (loops (og aa N) N [a0,a1,a2,t13,(I .i64 0),t13] s)
 (fun v10 bO=>some (.normal [.any,.any,.any,.any,.any],bO))
 (fun i12 v10 bO=>if i12=0 then some (.normal v10,bO) else some (.exit i12 v10,bO))
 (fun rN bO=>some (.ret rN,bO)))
 (fun jt gv=>bd (af .lss (jt.getD 4 .any) (jt.getD 3 .any)) fun t38 =>
 bd (gT (gd t38 true) (some (jt.getD 2 .any))) fun t40 =>
 bd (gT (gd t38 true) (some (jt.getD 0 .any))) fun t41 =>
 bd (gT (gd t38 true) (some (jt.getD 4 .any))) fun t42 =>
 bd (gT (gd t38 true) (av 5 t41 t42)) fun t43 =>
 bd (gT (gd t38 true) (aH 5 t43 gv.get)) fun t44 =>
 bd (gT (gd t38 true) (some (jt.getD 1 .any))) fun t45 =>
 ax (gS (gd t38 true) gv (dyn Tryz.prog aa t40 [t44,t45] gv)) fun t46 gV =>
 bd (gT (gd t38 true) (af .eql t46 (I .i64 0))) fun t47 =>
 bd (aC t38 t47 (B false)) fun t48 =>
 bd (aQ [(jt.getD 4 .any),t48]) fun ym =>
 some (ym,gV))
 (fun i16 jt gv=>none)
 (fun Fu gv=>some (Fu,gv))
theorem L7 (aa:ak) (N:Nat) (a0:T) (a1:T) (a2:T) (s:St):aR Tryz.prog aa N Tryz.f175 [a0,a1,a2] s=f175 aa N a0 a1 a2 s:=by kernel_rfl
theorem HE (d:Nat) (a0:T) (a1:T) (a2:T) (s:St):R (d+1) 175 [a0,a1,a2] s=f175 (R d) 8192 a0 a1 a2 s:=(au rfl Tryz.func175 (by kernel_rfl)).trans (L7 ..)
def f135 (aa:ak) (N:Nat) (a0:T) (a1:T) (a2:T) (s:St):Option (T×St) :=
 bd (aB 5 a0 (some a1) none none) fun t12 =>
 bd (az a2) fun t14 =>
 bd (af .eql t14 (I .i64 0)) fun t16 =>
 br t16 (some (a0,s))
 (bd (az a0) fun t19 =>
 bd (af .eql a1 t19) fun t22 =>
 br t22 (ax (aJ 5 40 a0 a2 s) fun t25 s1 =>
 some (t25,s1))
 (bd (af .add t19 t14) fun t28 =>
 bd (zc a0) fun t30 =>
 bd (af .gtr t28 t30) fun t31 =>
 br t31 (bd (aB 5 a0 none (some a1) none) fun t34 =>
 bd (af .add t19 t14) fun t37 =>
 bd (af .sub t37 a1) fun t39 =>
 ax (lG 5 40 [.int .i64 0,.int .i64 0,.int .i64 0,.int .i64 0,.int .u32 0] t34 t39 s) fun t40 s2 =>
 bd (aB 5 t40 (some a1) none none) fun t43 =>
 ax (fX 5 t43 a2 s2) fun t45 s3 =>
 bd (af .add a1 t14) fun t49 =>
 bd (aB 5 t40 (some t49) none none) fun t50 =>
 bd (aB 5 a0 (some a1) none none) fun t53 =>
 ax (fX 5 t50 t53 s3) fun t54 s4 =>
 some (t40,s4))
 (bd (af .add t19 t14) fun t59 =>
 bd (aB 5 a0 none (some t59) none) fun t60 =>
 bd (af .add a1 t14) fun t65 =>
 bd (aB 5 t60 (some t65) none none) fun t66 =>
 ax (uJ Tryz.prog 177 [a2,t66] s) fun t67 s5 =>
 bd (jZ .not t67) fun t68 =>
 br t68 (bd (af .add a1 t14) fun t72 =>
 bd (aB 5 t60 (some t72) none none) fun t73 =>
 bd (aB 5 t60 (some a1) none none) fun t76 =>
 ax (fX 5 t73 t76 s5) fun t77 s6 =>
 bd (aB 5 t60 (some a1) none none) fun t80 =>
 ax (fX 5 t80 a2 s6) fun t82 s7 =>
 some (t60,s7))
 (bd (aB 5 t60 (some t19) none none) fun t86 =>
 ax (fX 5 t86 a2 s5) fun t88 s8 =>
 bd (aB 5 t60 (some a1) none none) fun t91 =>
 ax (aa 178 [t91,t14] s8) fun t93 s9 =>
 some (t60,s9)))))
theorem Da (aa:ak) (N:Nat) (a0:T) (a1:T) (a2:T) (s:St):aR Tryz.prog aa N Tryz.f135 [a0,a1,a2] s=f135 aa N a0 a1 a2 s:=by kernel_rfl
def f136 (aa:ak) (N:Nat) (a0:T) (a1:T) (a2:T) (s:St):Option (T×St) :=
 bd (az a0) fun t12 =>
 bd (aB 5 a0 (some a1) (some a2) (some t12)) fun t13 =>
 bd (af .eql a1 a2) fun t16 =>
 br t16 (some (a0,s))
 (bd (az a0) fun t19 =>
 bd (aB 5 a0 none (some a1) none) fun t22 =>
 bd (aB 5 a0 (some a2) none none) fun t25 =>
 ax (aJ 5 40 t22 t25 s) fun t26 s1 =>
 bd (az t26) fun t29 =>
 bd (aB 5 t26 (some t29) (some t19) none) fun t31 =>
 ax (lF 5 [.int .i64 0,.int .i64 0,.int .i64 0,.int .i64 0,.int .u32 0] t31 s1) fun _ s2 =>
 some (t26,s2))
theorem LI (aa:ak) (N:Nat) (a0:T) (a1:T) (a2:T) (s:St):aR Tryz.prog aa N Tryz.f136 [a0,a1,a2] s=f136 aa N a0 a1 a2 s:=by kernel_rfl
end
noncomputable section
def f131 (aa:ak) (N:Nat) (a0:T) (s:St):Option (T×St) :=
 bd (az a0) fun t5 =>
 bd (aI .u64 t5) fun t6 =>
 ax (aa 159 [t6] s) fun t7 s1 =>
 ax (aa 161 [t7] s1) fun t10 s2 =>
 ax (aa 174 [t10,a0] s2) fun t12 s3 =>
 ax (aa 173 [t12] s3) fun t13 s4 =>
 ax (aL s4 (aS 3 (aG [.ay,.ay,.ay] [(0,1,t7),(1,1,t13),(2,1,a0)]))) fun t15 s5 =>
 ax (aa 172 [t15] s5) fun t16 s6 =>
 some (t16,s6)
theorem LC (aa:ak) (N:Nat) (a0:T) (s:St):aR Tryz.prog aa N Tryz.f131 [a0] s=f131 aa N a0 s:=by kernel_rfl
theorem Ho (d:Nat) (a0:T) (s:St):R (d+1) 131 [a0] s=f131 (R d) 8192 a0 s:=(au rfl Tryz.func131 (by kernel_rfl)).trans (LC ..)
def f93 (aa:ak) (N:Nat) (a0:T) (a1:T) (s:St):Option (T×St) :=
 ax (aa 118 [a0,a1] s) fun t15 s1 =>
 bd (ah t15 0) fun t16 =>
 bd (ah t15 1) fun t17 =>
 bd (ah t15 2) fun t18 =>
 bd (af .neq t18 (I .i64 0)) fun t20 =>
 bd (gT (gd t20 false) (some a0)) fun t22 =>
 bd (gT (gd t20 false) (az t22)) fun t23 =>
 bd (gT (gd t20 false) (some t17)) fun t24 =>
 bd (gT (gd t20 false) (af .sub t23 t24)) fun t25 =>
 bd (gT (gd t20 false) (af .lss t25 (I .i64 4))) fun t26 =>
 bd (aC t20 (B true) t26) fun t27 =>
 bd (gT (gd t27 false) (some t16)) fun t29 =>
 bd (gT (gd t27 false) (some a0)) fun t30 =>
 bd (gT (gd t27 false) (az t30)) fun t31 =>
 bd (gT (gd t27 false) (some t17)) fun t32 =>
 bd (gT (gd t27 false) (af .sub t31 t32)) fun t33 =>
 bd (gT (gd t27 false) (af .sub t33 (I .i64 4))) fun t34 =>
 bd (gT (gd t27 false) (aI .u64 t34)) fun t35 =>
 bd (gT (gd t27 false) (af .gtr t29 t35)) fun t36 =>
 bd (aC t27 (B true) t36) fun t37 =>
 br t37 (bd (aQ [(Z .ay),a1,(B false)]) fun r2 =>
 some (r2,s1))
 (bd (af .add t17 (I .i64 4)) fun t40 =>
 bd (aI .i64 t16) fun t42 =>
 bd (af .add t40 t42) fun t43 =>
 bd (af .add t17 (I .i64 4)) fun t46 =>
 bd (aB 1 a0 (some t46) (some t43) none) fun t48 =>
 bd (aB 1 a0 (some a1) (some t43) none) fun t52 =>
 ax (aa 131 [t48] s1) fun t54 s3 =>
 ax (aa 130 [t52,t54] s3) fun t55 s4 =>
 bd (jZ .not t55) fun t56 =>
 br t56 (bd (aQ [(Z .ay),a1,(B false)]) fun r5 =>
 some (r5,s4))
 (bd (aQ [t48,t43,(B true)]) fun r6 =>
 some (r6,s4)))
theorem QX (aa:ak) (N:Nat) (a0:T) (a1:T) (s:St):aR Tryz.prog aa N Tryz.f93 [a0,a1] s=f93 aa N a0 a1 s:=by kernel_rfl
theorem M9 (d:Nat) (a0:T) (a1:T) (s:St):R (d+1) 93 [a0,a1] s=f93 (R d) 8192 a0 a1 s:=(au rfl Tryz.func93 (by kernel_rfl)).trans (QX ..)
def f95 (aa:ak) (N:Nat) (a0:T) (s:St):Option (T×St) :=
 ax (aL s (cf a0)) fun t1 s1 =>
 bd (aH 8 t1 s1.get) fun t7 =>
 ax (aa 133 [t7] s1) fun t8 s2 =>
 bd (ah t8 0) fun t9 =>
 bd (ah t8 1) fun t10 =>
 bd (af .neq t10 (I .i64 0)) fun t12 =>
 br t12 (bd (aQ [(Z .ay),t10]) fun r3 =>
 some (r3,s2))
 (ax (aa 131 [t9] s2) fun t15 s4 =>
 bd (aQ [t15,(I .i64 0)]) fun r5 =>
 some (r5,s4))
theorem QZ (aa:ak) (N:Nat) (a0:T) (s:St):aR Tryz.prog aa N Tryz.f95 [a0] s=f95 aa N a0 s:=by kernel_rfl
theorem Nb (d:Nat) (a0:T) (s:St):R (d+1) 95 [a0] s=f95 (R d) 8192 a0 s:=(au rfl Tryz.func95 (by kernel_rfl)).trans (QZ ..)
def pJ (aa:ak) (N:Nat) (v:List T) (s:St):Option (JO×St) :=
 bd (az (v.getD 1 .any)) fun t12 =>
 bd (af .lss t12 (I .i64 2000)) fun t13 =>
 br t13 (jn (ax (aa 93 [(v.getD 0 .any),(v.getD 2 .any)] s) fun t17 s1 =>
 bd (ah t17 0) fun t18 =>
 bd (ah t17 1) fun t19 =>
 bd (ah t17 2) fun t20 =>
 bd (jZ .not t20) fun t22 =>
 br t22 (some (.exit 0 [(v.getD 1 .any),(v.getD 2 .any)],s1))
 (ax (aa 94 [t18] s1) fun t25 s2 =>
 bd (ah t25 0) fun t26 =>
 bd (ah t25 1) fun t27 =>
 ax (aL s2 (bb [.int .i64 0,.int .i64 0,.int .i64 0,.int .i64 0,.int .i64 0,.int .i64 0,.int .u32 0,.str []])) fun t9 s3 =>
 ax (aw 8 t9 t26 s3) fun _ s4 =>
 bd (af .neq t27 (I .i64 0)) fun t29 =>
 br t29 (some (.exit 0 [(v.getD 1 .any),(v.getD 2 .any)],s4))
 (bd (aH 8 t9 s4.get) fun t31 =>
 ax (aL s4 (aS 1 (aG [.int .i64 0,.int .i64 0,.int .i64 0,.int .i64 0,.int .i64 0,.int .i64 0,.int .u32 0,.str []] [(0,8,t31)]))) fun t32 s5 =>
 ax (aJ 8 72 (v.getD 1 .any) t32 s5) fun t33 s6 =>
 some (.normal [(v.getD 0 .any),t33,t19],s6))))
 (fun v7 s8=>some (.normal [(v7.getD 0 .any),(v7.getD 1 .any),(v7.getD 2 .any)],s8))
 (fun i9 v7 s8=>some (.exit i9 v7,s8))
 (fun oR s8=>some (.ret oR,s8)))
 (some (.exit 0 [(v.getD 1 .any),(v.getD 2 .any)],s))
def f43 (aa:ak) (N:Nat) (a0:T) (s:St):Option (T×St) :=
 jn (jn (loops (pJ aa N) N [a0,(Z .ay),(I .i64 0)] s)
 (fun v11 bW=>some (.normal [.any,.any],bW))
 (fun i13 v11 bW=>if i13=0 then some (.normal v11,bW) else some (.exit i13 v11,bW))
 (fun vg bW=>some (.ret vg,bW)))
 (fun o7 fV=>bd (aQ [(o7.getD 0 .any),(o7.getD 1 .any)]) fun ym =>
 some (ym,fV))
 (fun i17 o7 fV=>none)
 (fun Fv fV=>some (Fv,fV))
theorem Qw (aa:ak) (N:Nat) (a0:T) (s:St):aR Tryz.prog aa N Tryz.f43 [a0] s=f43 aa N a0 s:=by kernel_rfl
theorem MF (d:Nat) (a0:T) (s:St):R (d+1) 43 [a0] s=f43 (R d) 8192 a0 s:=(au rfl Tryz.func43 (by kernel_rfl)).trans (Qw ..)
end
noncomputable section
def f10 (aa:ak) (N:Nat) (a0:T) (s:St):Option (T×St) :=
 bd (af .lss a0 (I .i64 0)) fun t4 =>
 bd (gT (gd t4 false) (some a0)) fun t6 =>
 bd (gT (gd t4 false) (af .gtr t6 (I .i64 1048576))) fun t7 =>
 bd (aC t4 (B true) t7) fun t8 =>
 br t8 (some ((Z .bL),s))
 (ax (aL s (N7)) fun t10 s1 =>
 bd (aU (aG [.int .i64 0,.mU] [(0,1,a0),(1,1,t10)])) fun t11 =>
 ax (aL s1 (cf t11)) fun t12 s2 =>
 some (t12,s2))
theorem P9 (aa:ak) (N:Nat) (a0:T) (s:St):aR Tryz.prog aa N Tryz.f10 [a0] s=f10 aa N a0 s:=by kernel_rfl
theorem Lp (d:Nat) (a0:T) (s:St):R (d+1) 10 [a0] s=f10 (R d) 8192 a0 s:=(au rfl Tryz.func10 (by kernel_rfl)).trans (P9 ..)
def f12 (aa:ak) (N:Nat) (a0:T) (a1:T) (a2:T) (s:St):Option (T×St) :=
 ax (aa 36 [a0,a1] s) fun t12 s1 =>
 bd (ah t12 0) fun t13 =>
 bd (ah t12 1) fun t14 =>
 bd (af .neq t14 (I .i64 0)) fun t16 =>
 bd (gT (gd t16 true) (some t14)) fun t18 =>
 bd (gT (gd t16 true) (af .neq t18 (I .i64 9))) fun t19 =>
 bd (aC t16 t19 (B false)) fun t20 =>
 br t20 (some (t14,s1))
 (bd (fT .p t13 (Z .bL)) fun t23 =>
 bd (gT (gd t23 true) (some a0)) fun t25 =>
 bd (gT (gd t23 true) (bg t25)) fun t26 =>
 bd (gT (gd t23 true) (ae 1 t26)) fun t27 =>
 bd (gT (gd t23 true) (ab t27 s1.get)) fun t28 =>
 bd (gT (gd t23 true) (gz t28 s1.get)) fun t29 =>
 bd (gT (gd t23 true) (af .eql t29 (I .i64 200))) fun t30 =>
 bd (aC t23 t30 (B false)) fun t31 =>
 bd (gT (gd t31 false) (some a0)) fun t33 =>
 ax (gS (gd t31 false) s1 (aa 30 [t33] s1)) fun t34 s2 =>
 bd (gT (gd t31 false) (some a2)) fun t35 =>
 bd (gT (gd t31 false) (az t35)) fun t36 =>
 bd (gT (gd t31 false) (af .add t34 t36)) fun t37 =>
 bd (gT (gd t31 false) (some a0)) fun t38 =>
 bd (gT (gd t31 false) (bg t38)) fun t39 =>
 bd (gT (gd t31 false) (ae 0 t39)) fun t40 =>
 bd (gT (gd t31 false) (ab t40 s2.get)) fun t41 =>
 bd (gT (gd t31 false) (af .gtr t37 t41)) fun t42 =>
 bd (aC t31 (B true) t42) fun t43 =>
 ck ((wq (gd t31 false) (decide (ab t40 s1.get=ab t40 s2.get))&&true)&&true) (br t43 (some ((I .i64 8),s2))
 (bd (fT .p t13 (Z .bL)) fun t45 =>
 jn (br t45 (bd (aU (aG [.ay,.int .i64 0] [])) fun t46 =>
 ax (aL s2 (cf t46)) fun t47 s3 =>
 bd (bg a0) fun t49 =>
 bd (ae 1 t49) fun t50 =>
 bd (ab t50 s3.get) fun t51 =>
 ax (Fc .s t51 a1 t47 s3) fun _ s4 =>
 some (.normal [a2,t47],s4))
 (some (.normal [a2,t13],s2)))
 (fun v5 s6=>bd (bg (v5.getD 1 .any)) fun t56 =>
 bd (ae 0 t56) fun t57 =>
 bd (ab t57 s6.get) fun t58 =>
 ax (aJ 1 1 t58 (v5.getD 0 .any) s6) fun t60 s9 =>
 bd (bg (v5.getD 1 .any)) fun t61 =>
 bd (ae 0 t61) fun t62 =>
 ax (aw 1 t62 t60 s9) fun _ bM =>
 some ((I .i64 0),bM))
 (fun i7 v5 s6=>none)
 (fun r8 s6=>some (r8,s6)))))
theorem Qa (aa:ak) (N:Nat) (a0:T) (a1:T) (a2:T) (s:St):aR Tryz.prog aa N Tryz.f12 [a0,a1,a2] s=f12 aa N a0 a1 a2 s:=by kernel_rfl
theorem xJ (d:Nat) (a0:T) (a1:T) (a2:T) (s:St):R (d+1) 12 [a0,a1,a2] s=f12 (R d) 8192 a0 a1 a2 s:=(au rfl Tryz.func12 (by kernel_rfl)).trans (Qa ..)
def f47 (aa:ak) (N:Nat) (a0:T) (a1:T) (s:St):Option (T×St) :=
 ax (aa 36 [a0,a1] s) fun t10 s1 =>
 bd (ah t10 0) fun t11 =>
 bd (ah t10 1) fun t12 =>
 bd (af .eql t12 (I .i64 0)) fun t14 =>
 jn (br t14 (bd (bg t11) fun t17 =>
 bd (ae 0 t17) fun t18 =>
 bd (ab t18 s1.get) fun t19 =>
 bd (az t19) fun t20 =>
 bd (bg t11) fun t21 =>
 bd (ae 1 t21) fun t22 =>
 ax (aw 1 t22 t20 s1) fun _ s2 =>
 some (.normal [t12],s2))
 (some (.normal [t12],s1)))
 (fun v3 s4=>some ((v3.getD 0 .any),s4))
 (fun i5 v3 s4=>none)
 (fun r6 s4=>some (r6,s4))
theorem QA (aa:ak) (N:Nat) (a0:T) (a1:T) (s:St):aR Tryz.prog aa N Tryz.f47 [a0,a1] s=f47 aa N a0 a1 s:=by kernel_rfl
theorem Df (d:Nat) (a0:T) (a1:T) (s:St):R (d+1) 47 [a0,a1] s=f47 (R d) 8192 a0 a1 s:=(au rfl Tryz.func47 (by kernel_rfl)).trans (QA ..)
def nv (aa:ak) (N:Nat) (v:List T) (s:St):Option (JO×St) :=
 bd (af .lss (v.getD 4 .any) (v.getD 3 .any)) fun t12 =>
 br t12 (jn (bd (av 1 (v.getD 2 .any) (v.getD 4 .any)) fun t14 =>
 bd (ab t14 s.get) fun t15 =>
 bd (bg (v.getD 0 .any)) fun t17 =>
 bd (ae 1 t17) fun t18 =>
 bd (ab t18 s.get) fun t19 =>
 bd (Go.Abs.F.look .s false (.s (.bL)) t19 t15 s.get) fun t21 =>
 bd (az (v.getD 1 .any)) fun t24 =>
 bd (af .lss (v.getD 4 .any) t24) fun t25 =>
 jn (br t25 (bd (av 1 (v.getD 1 .any) (v.getD 4 .any)) fun t28 =>
 bd (ab t28 s.get) fun t29 =>
 bd (kM vr t29 [(I .i64 0)]) fun t30 =>
 bd (bg t21) fun t32 =>
 bd (ae 0 t32) fun t33 =>
 bd (ab t33 s.get) fun t34 =>
 bd (az t34) fun t35 =>
 bd (bg t21) fun t37 =>
 bd (ae 1 t37) fun t38 =>
 bd (ab t38 s.get) fun t39 =>
 bd (af .sub t35 t39) fun t40 =>
 bd (kM nQ t30 [t40]) fun t41 =>
 some (.normal [(v.getD 0 .any),(v.getD 1 .any),t21,t41,(v.getD 2 .any),(v.getD 3 .any),(v.getD 4 .any)],s))
 (some (.normal [(v.getD 0 .any),(v.getD 1 .any),t21,(I .i64 0),(v.getD 2 .any),(v.getD 3 .any),(v.getD 4 .any)],s)))
 (fun v2 s3=>bd (bg (v2.getD 2 .any)) fun t44 =>
 bd (ae 0 t44) fun t45 =>
 bd (ab t45 s3.get) fun t46 =>
 bd (bg (v2.getD 2 .any)) fun t48 =>
 bd (ae 1 t48) fun t49 =>
 bd (ab t49 s3.get) fun t50 =>
 bd (af .add t50 (v2.getD 3 .any)) fun t52 =>
 bd (aB 1 t46 none (some t52) none) fun t53 =>
 bd (bg (v2.getD 2 .any)) fun t54 =>
 bd (ae 0 t54) fun t55 =>
 ax (aw 1 t55 t53 s3) fun _ s6 =>
 bd (bg (v2.getD 2 .any)) fun t58 =>
 bd (ae 0 t58) fun t59 =>
 bd (ab t59 s6.get) fun t60 =>
 bd (az t60) fun t61 =>
 bd (bg (v2.getD 2 .any)) fun t62 =>
 bd (ae 1 t62) fun t63 =>
 ax (aw 1 t63 t61 s6) fun _ s7 =>
 some (.normal [(v2.getD 0 .any),(v2.getD 1 .any),(v2.getD 4 .any),(v2.getD 5 .any),(v2.getD 6 .any)],s7))
 (fun i4 v2 s3=>if i4=1 then some (.normal v2,s3) else some (.exit i4 v2,s3))
 (fun r5 s3=>some (.ret r5,s3)))
 (fun v8 s9=>bd (af .add (v8.getD 4 .any) (I .i64 1)) fun t64 =>
 some (.normal [(v8.getD 0 .any),(v8.getD 1 .any),(v8.getD 2 .any),(v8.getD 3 .any),t64],s9))
 (fun i10 v8 s9=>some (.exit i10 v8,s9))
 (fun Vr s9=>some (.ret Vr,s9)))
 (some (.exit 0 [],s))
def f25 (aa:ak) (N:Nat) (a0:T) (a1:T) (s:St):Option (T×St) :=
 ax (aa 29 [a0] s) fun t9 s1 =>
 bd (az t9) fun t10 =>
 jn (jn (loops (nv aa N) N [a0,a1,t9,t10,(I .i64 0)] s1)
 (fun v12 dX=>some (.normal [],dX))
 (fun i14 v12 dX=>if i14=0 then some (.normal v12,dX) else some (.exit i14 v12,dX))
 (fun Fs dX=>some (.ret Fs,dX)))
 (fun gW iI=>bd (aQ []) fun CF =>
 some (CF,iI))
 (fun i18 gW iI=>none)
 (fun ym iI=>some (ym,iI))
theorem Qk (aa:ak) (N:Nat) (a0:T) (a1:T) (s:St):aR Tryz.prog aa N Tryz.f25 [a0,a1] s=f25 aa N a0 a1 s:=by kernel_rfl
theorem My (d:Nat) (a0:T) (a1:T) (s:St):R (d+1) 25 [a0,a1] s=f25 (R d) 8192 a0 a1 s:=(au rfl Tryz.func25 (by kernel_rfl)).trans (Qk ..)
def f42 (aa:ak) (N:Nat) (a0:T) (a1:T) (s:St):Option (T×St) :=
 ax (aa 36 [a0,a1] s) fun t11 s1 =>
 bd (ah t11 0) fun t12 =>
 bd (ah t11 1) fun t13 =>
 bd (af .neq t13 (I .i64 0)) fun t15 =>
 br t15 (bd (aQ [(Z .ay),t13]) fun r2 =>
 some (r2,s1))
 (bd (bg t12) fun t18 =>
 bd (ae 0 t18) fun t19 =>
 bd (ab t19 s1.get) fun t20 =>
 ax (aa 92 [t20] s1) fun t21 s3 =>
 bd (aQ [t21,(I .i64 0)]) fun r4 =>
 some (r4,s3))
theorem Qv (aa:ak) (N:Nat) (a0:T) (a1:T) (s:St):aR Tryz.prog aa N Tryz.f42 [a0,a1] s=f42 aa N a0 a1 s:=by kernel_rfl
theorem Dd (d:Nat) (a0:T) (a1:T) (s:St):R (d+1) 42 [a0,a1] s=f42 (R d) 8192 a0 a1 s:=(au rfl Tryz.func42 (by kernel_rfl)).trans (Qv ..)
def f45 (aa:ak) (N:Nat) (a0:T) (a1:T) (a2:T) (s:St):Option (T×St) :=
 ax (aa 36 [a0,a1] s) fun t12 s1 =>
 bd (ah t12 0) fun t13 =>
 bd (ah t12 1) fun t14 =>
 jn (bd (af .neq t14 (I .i64 0)) fun t17 =>
 br t17 (some (.ret t14,s1))
 (bd (af .lss a2 (I .i64 0)) fun t21 =>
 bd (gT (gd t21 false) (some a2)) fun t23 =>
 bd (gT (gd t21 false) (some t13)) fun t24 =>
 bd (gT (gd t21 false) (bg t24)) fun t25 =>
 bd (gT (gd t21 false) (ae 0 t25)) fun t26 =>
 bd (gT (gd t21 false) (ab t26 s1.get)) fun t27 =>
 bd (gT (gd t21 false) (az t27)) fun t28 =>
 bd (gT (gd t21 false) (af .gtr t23 t28)) fun t29 =>
 bd (aC t21 (B true) t29) fun t30 =>
 br t30 (some (.ret (I .i64 5),s1))
 (some (.normal [a2,t13],s1))))
 (fun v2 s3=>bd (bg (v2.getD 1 .any)) fun t34 =>
 bd (ae 0 t34) fun t35 =>
 bd (ab t35 s3.get) fun t36 =>
 bd (aB 1 t36 none (some (v2.getD 0 .any)) none) fun t38 =>
 bd (bg (v2.getD 1 .any)) fun t40 =>
 bd (ae 1 t40) fun t41 =>
 bd (ab t41 s3.get) fun t42 =>
 bd (kM nQ t42 [(v2.getD 0 .any)]) fun t44 =>
 bd (bg (v2.getD 1 .any)) fun t45 =>
 bd (ae 0 t45) fun t46 =>
 ax (aw 1 t46 t38 s3) fun _ s6 =>
 bd (bg (v2.getD 1 .any)) fun t47 =>
 bd (ae 1 t47) fun t48 =>
 ax (aw 1 t48 t44 s6) fun _ s7 =>
 some ((I .i64 0),s7))
 (fun i4 v2 s3=>none)
 (fun r5 s3=>some (r5,s3))
theorem Qy (aa:ak) (N:Nat) (a0:T) (a1:T) (a2:T) (s:St):aR Tryz.prog aa N Tryz.f45 [a0,a1,a2] s=f45 aa N a0 a1 a2 s:=by kernel_rfl
theorem De (d:Nat) (a0:T) (a1:T) (a2:T) (s:St):R (d+1) 45 [a0,a1,a2] s=f45 (R d) 8192 a0 a1 a2 s:=(au rfl Tryz.func45 (by kernel_rfl)).trans (Qy ..)
def f54 (aa:ak) (N:Nat) (a0:T) (a1:T) (s:St):Option (T×St) :=
 ax (aa 36 [a0,a1] s) fun t10 s1 =>
 bd (ah t10 0) fun t11 =>
 bd (ah t10 1) fun t12 =>
 bd (af .eql t12 (I .i64 0)) fun t14 =>
 jn (br t14 (bd (bg a0) fun t16 =>
 bd (ae 1 t16) fun t17 =>
 bd (ab t17 s1.get) fun t18 =>
 ax (R4 .s t18 a1 s1) fun _ s2 =>
 some (.normal [t12],s2))
 (some (.normal [t12],s1)))
 (fun v3 s4=>some ((v3.getD 0 .any),s4))
 (fun i5 v3 s4=>none)
 (fun r6 s4=>some (r6,s4))
theorem QH (aa:ak) (N:Nat) (a0:T) (a1:T) (s:St):aR Tryz.prog aa N Tryz.f54 [a0,a1] s=f54 aa N a0 a1 s:=by kernel_rfl
theorem Dg (d:Nat) (a0:T) (a1:T) (s:St):R (d+1) 54 [a0,a1] s=f54 (R d) 8192 a0 a1 s:=(au rfl Tryz.func54 (by kernel_rfl)).trans (QH ..)
def ny (aa:ak) (N:Nat) (v:List T) (s:St):Option (JO×St) :=
 bd (af .lss (v.getD 4 .any) (v.getD 3 .any)) fun t10 =>
 br t10 (jn (bd (av 1 (v.getD 2 .any) (v.getD 4 .any)) fun t11 =>
 bd (ab t11 s.get) fun t12 =>
 bd (bg (v.getD 0 .any)) fun t15 =>
 bd (ae 1 t15) fun t16 =>
 bd (ab t16 s.get) fun t17 =>
 bd (Go.Abs.F.look .s false (.s (.bL)) t17 t12 s.get) fun t19 =>
 bd (bg t19) fun t20 =>
 bd (ae 0 t20) fun t21 =>
 bd (ab t21 s.get) fun t22 =>
 bd (az t22) fun t23 =>
 bd (af .add (v.getD 1 .any) t23) fun t24 =>
 some (.normal [(v.getD 0 .any),t24,(v.getD 2 .any),(v.getD 3 .any),(v.getD 4 .any)],s))
 (fun v2 s3=>bd (af .add (v2.getD 4 .any) (I .i64 1)) fun t25 =>
 some (.normal [(v2.getD 0 .any),(v2.getD 1 .any),(v2.getD 2 .any),(v2.getD 3 .any),t25],s3))
 (fun i4 v2 s3=>some (.exit i4 v2,s3))
 (fun r5 s3=>some (.ret r5,s3)))
 (some (.exit 0 [(v.getD 1 .any)],s))
def f30 (aa:ak) (N:Nat) (a0:T) (s:St):Option (T×St) :=
 ax (aa 29 [a0] s) fun t7 s1 =>
 bd (az t7) fun t8 =>
 jn (jn (loops (ny aa N) N [a0,(I .i64 0),t7,t8,(I .i64 0)] s1)
 (fun v6 s7=>some (.normal [.any],s7))
 (fun i8 v6 s7=>if i8=0 then some (.normal v6,s7) else some (.exit i8 v6,s7))
 (fun r9 s7=>some (.ret r9,s7)))
 (fun v10 bO=>some ((v10.getD 0 .any),bO))
 (fun i12 v10 bO=>none)
 (fun rN bO=>some (rN,bO))
theorem Qo (aa:ak) (N:Nat) (a0:T) (s:St):aR Tryz.prog aa N Tryz.f30 [a0] s=f30 aa N a0 s:=by kernel_rfl
theorem MC (d:Nat) (a0:T) (s:St):R (d+1) 30 [a0] s=f30 (R d) 8192 a0 s:=(au rfl Tryz.func30 (by kernel_rfl)).trans (Qo ..)
def f36 (aa:ak) (N:Nat) (a0:T) (a1:T) (s:St):Option (T×St) :=
 jn (bd (fT .p a0 (Z .bL)) fun t8 =>
 br t8 (bd (aQ [(Z .bL),(I .i64 10)]) fun r1 =>
 some (.ret r1,s))
 (ax (aa 90 [a1] s) fun t11 s2 =>
 bd (jZ .not t11) fun t12 =>
 br t12 (bd (aQ [(Z .bL),(I .i64 1)]) fun r3 =>
 some (.ret r3,s2))
 (bd (bg a0) fun t15 =>
 bd (ae 1 t15) fun t16 =>
 bd (ab t16 s2.get) fun t17 =>
 bd (Go.Abs.F.look .s false (.s (.bL)) t17 a1 s2.get) fun t19 =>
 bd (fT .p t19 (Z .bL)) fun t20 =>
 br t20 (bd (aQ [(Z .bL),(I .i64 9)]) fun r4 =>
 some (.ret r4,s2))
 (some (.normal [a0,a1],s2)))))
 (fun v5 s6=>bd (bg (v5.getD 0 .any)) fun t22 =>
 bd (ae 1 t22) fun t23 =>
 bd (ab t23 s6.get) fun t24 =>
 bd (Go.Abs.F.look .s false (.s (.bL)) t24 (v5.getD 1 .any) s6.get) fun t26 =>
 bd (aQ [t26,(I .i64 0)]) fun r9 =>
 some (r9,s6))
 (fun i7 v5 s6=>none)
 (fun r8 s6=>some (r8,s6))
theorem Qq (aa:ak) (N:Nat) (a0:T) (a1:T) (s:St):aR Tryz.prog aa N Tryz.f36 [a0,a1] s=f36 aa N a0 a1 s:=by kernel_rfl
theorem Dc (d:Nat) (a0:T) (a1:T) (s:St):R (d+1) 36 [a0,a1] s=f36 (R d) 8192 a0 a1 s:=(au rfl Tryz.func36 (by kernel_rfl)).trans (Qq ..)
end
noncomputable section
def f49 (aa:ak) (N:Nat) (a0:T) (a1:T) (s:St):Option (T×St) :=
 ax (aa 98 [a0,a1] s) fun t7 s1 =>
 bd (af .geq t7 (I .i64 0)) fun t8 =>
 some (t8,s1)
theorem QC (aa:ak) (N:Nat) (a0:T) (a1:T) (s:St):aR Tryz.prog aa N Tryz.f49 [a0,a1] s=f49 aa N a0 a1 s:=by kernel_rfl
theorem MK (d:Nat) (a0:T) (a1:T) (s:St):R (d+1) 49 [a0,a1] s=f49 (R d) 8192 a0 a1 s:=(au rfl Tryz.func49 (by kernel_rfl)).trans (QC ..)
def tB (aa:ak) (N:Nat) (v:List T) (s:St):Option (JO×St) :=
 bd (af .lss (v.getD 3 .any) (v.getD 2 .any)) fun t9 =>
 br t9 (jn (bd (av 5 (v.getD 0 .any) (v.getD 3 .any)) fun t14 =>
 bd (aH 5 t14 s.get) fun t15 =>
 ax (dyn Tryz.prog aa (v.getD 1 .any) [t15] s) fun t16 s1 =>
 br t16 (some (.ret (v.getD 3 .any),s1))
 (some (.normal [(v.getD 0 .any),(v.getD 1 .any),(v.getD 2 .any),(v.getD 3 .any)],s1)))
 (fun v2 s3=>bd (af .add (v2.getD 3 .any) (I .i64 1)) fun t18 =>
 some (.normal [(v2.getD 0 .any),(v2.getD 1 .any),(v2.getD 2 .any),t18],s3))
 (fun i4 v2 s3=>some (.exit i4 v2,s3))
 (fun r5 s3=>some (.ret r5,s3)))
 (some (.exit 0 [],s))
def f98 (aa:ak) (N:Nat) (a0:T) (a1:T) (s:St):Option (T×St) :=
 bd (az a0) fun t7 =>
 jn (jn (loops (tB aa N) N [a0,a1,t7,(I .i64 0)] s)
 (fun v6 s7=>some (.normal [],s7))
 (fun i8 v6 s7=>if i8=0 then some (.normal v6,s7) else some (.exit i8 v6,s7))
 (fun r9 s7=>some (.ret r9,s7)))
 (fun v10 bO=>some ((I .i64 (-1)),bO))
 (fun i12 v10 bO=>none)
 (fun rN bO=>some (rN,bO))
theorem Q6 (aa:ak) (N:Nat) (a0:T) (a1:T) (s:St):aR Tryz.prog aa N Tryz.f98 [a0,a1] s=f98 aa N a0 a1 s:=by kernel_rfl
theorem Di (d:Nat) (a0:T) (a1:T) (s:St):R (d+1) 98 [a0,a1] s=f98 (R d) 8192 a0 a1 s:=(au rfl Tryz.func98 (by kernel_rfl)).trans (Q6 ..)
def f50 (aa:ak) (N:Nat) (a0:T) (a1:T) (s:St):Option (T×St) :=
 ax (aL s (cf a0)) fun t2 s1 =>
 bd (ab a1 s1.get) fun t4 =>
 bd (aH 5 t2 s1.get) fun t5 =>
 ax (aa 51 [t4,t5] s1) fun t6 s2 =>
 bd (jZ .not t6) fun t7 =>
 some (t7,s2)
theorem QE (aa:ak) (N:Nat) (a0:T) (a1:T) (s:St):aR Tryz.prog aa N Tryz.f50 [a0,a1] s=f50 aa N a0 a1 s:=by kernel_rfl
theorem MN (d:Nat) (a0:T) (a1:T) (s:St):R (d+1) 50 [a0,a1] s=f50 (R d) 8192 a0 a1 s:=(au rfl Tryz.func50 (by kernel_rfl)).trans (QE ..)
def f53 (aa:ak) (N:Nat) (a0:T) (a1:T) (s:St):Option (T×St) :=
 ax (aL s (cf a0)) fun t2 s1 =>
 bd (ae 0 t2) fun t4 =>
 bd (ab t4 s1.get) fun t5 =>
 bd (ab a1 s1.get) fun t6 =>
 bd (af .eql t5 t6) fun t7 =>
 some (t7,s1)
theorem QG (aa:ak) (N:Nat) (a0:T) (a1:T) (s:St):aR Tryz.prog aa N Tryz.f53 [a0,a1] s=f53 aa N a0 a1 s:=by kernel_rfl
theorem MP (d:Nat) (a0:T) (a1:T) (s:St):R (d+1) 53 [a0,a1] s=f53 (R d) 8192 a0 a1 s:=(au rfl Tryz.func53 (by kernel_rfl)).trans (QG ..)
def f78 (aa:ak) (N:Nat) (a0:T) (s:St):Option (T×St) :=
 bd (fT .l a0 (Z .ay)) fun t4 =>
 br t4 (some ((Z .ay),s))
 (ax (aL s (aS 0 (aG [] []))) fun t5 s1 =>
 ax (aJ 8 72 t5 a0 s1) fun t7 s2 =>
 some (t7,s2))
theorem QR (aa:ak) (N:Nat) (a0:T) (s:St):aR Tryz.prog aa N Tryz.f78 [a0] s=f78 aa N a0 s:=by kernel_rfl
theorem MZ (d:Nat) (a0:T) (s:St):R (d+1) 78 [a0] s=f78 (R d) 8192 a0 s:=(au rfl Tryz.func78 (by kernel_rfl)).trans (QR ..)
def f80 (aa:ak) (N:Nat) (a0:T) (a1:T) (s:St):Option (T×St) :=
 ax (aL s (cf a0)) fun t2 s1 =>
 bd (ae 0 t2) fun t4 =>
 bd (ab t4 s1.get) fun t5 =>
 bd (ab a1 s1.get) fun t6 =>
 bd (af .eql t5 t6) fun t7 =>
 some (t7,s1)
theorem QT (aa:ak) (N:Nat) (a0:T) (a1:T) (s:St):aR Tryz.prog aa N Tryz.f80 [a0,a1] s=f80 aa N a0 a1 s:=by kernel_rfl
theorem M3 (d:Nat) (a0:T) (a1:T) (s:St):R (d+1) 80 [a0,a1] s=f80 (R d) 8192 a0 a1 s:=(au rfl Tryz.func80 (by kernel_rfl)).trans (QT ..)
def tu (aa:ak) (N:Nat) (v:List T) (s:St):Option (JO×St) :=
 bd (af .lss (v.getD 4 .any) (v.getD 3 .any)) fun t34 =>
 br t34 (jn (bd (av 8 (v.getD 2 .any) (v.getD 4 .any)) fun t35 =>
 bd (aH 8 t35 s.get) fun t36 =>
 ax (aL s (bb [.int .i64 0,.int .i64 0,.int .i64 0,.int .i64 0,.int .i64 0,.int .i64 0,.int .u32 0,.str []])) fun t10 s7 =>
 ax (aw 8 t10 t36 s7) fun _ s8 =>
 bd (aH 8 t10 s8.get) fun t38 =>
 ax (aa 44 [(v.getD 1 .any),t38] s8) fun t39 s9 =>
 bd (jZ .not t39) fun t40 =>
 br t40 (some (.exit 0 [(v.getD 0 .any),(v.getD 1 .any)],s9))
 (some (.normal [(v.getD 0 .any),(v.getD 1 .any),(v.getD 2 .any),(v.getD 3 .any),(v.getD 4 .any)],s9)))
 (fun v10 bO=>bd (af .add (v10.getD 4 .any) (I .i64 1)) fun t41 =>
 some (.normal [(v10.getD 0 .any),(v10.getD 1 .any),(v10.getD 2 .any),(v10.getD 3 .any),t41],bO))
 (fun i12 v10 bO=>some (.exit i12 v10,bO))
 (fun rN bO=>some (.ret rN,bO)))
 (some (.exit 0 [(v.getD 0 .any),(v.getD 1 .any)],s))
def ko (aa:ak) (N:Nat) (v:List T) (s:St):Option (JO×St) :=
 bd (af .lss (v.getD 5 .any) (v.getD 4 .any)) fun t73 =>
 br t73 (jn (bd (av 1 (v.getD 3 .any) (v.getD 5 .any)) fun t74 =>
 bd (ab t74 s.get) fun t75 =>
 ax (aa 52 [t75] s) fun t77 rl =>
 ax (aL rl (bb [.int .i64 0])) fun t14 wM =>
 ax (aw 1 t14 t77 wM) fun _ VA =>
 bd (ab t14 VA.get) fun t78 =>
 bd (af .eql t78 (I .i64 0)) fun t79 =>
 bd (gT (gd t79 false) (some (v.getD 2 .any))) fun t81 =>
 bd (gT (gd t79 false) (rG 53 [t14] [])) fun t82 =>
 ax (gS (gd t79 false) VA (aa 49 [t81,t82] VA)) fun t83 sD =>
 bd (aC t79 (B true) t83) fun t84 =>
 br t84 (some (.normal [(v.getD 0 .any),(v.getD 1 .any),(v.getD 2 .any),(v.getD 3 .any),(v.getD 4 .any),(v.getD 5 .any)],sD))
 (bd (ab (v.getD 0 .any) sD.get) fun t85 =>
 ax (aa 54 [t85,t75] sD) fun t87 Gg =>
 some (.normal [(v.getD 0 .any),(v.getD 1 .any),(v.getD 2 .any),(v.getD 3 .any),(v.getD 4 .any),(v.getD 5 .any)],Gg)))
 (fun v35 Gh=>bd (af .add (v35.getD 5 .any) (I .i64 1)) fun t88 =>
 some (.normal [(v35.getD 0 .any),(v35.getD 1 .any),(v35.getD 2 .any),(v35.getD 3 .any),(v35.getD 4 .any),t88],Gh))
 (fun i37 v35 Gh=>some (.exit i37 v35,Gh))
 (fun ZJ Gh=>some (.ret ZJ,Gh)))
 (some (.exit 2 [(v.getD 1 .any)],s))
def f14 (aa:ak) (N:Nat) (a0:T) (s:St):Option (T×St) :=
 ax (aL s (cf a0)) fun t1 s1 =>
 bd (ab t1 s1.get) fun t15 =>
 bd (fT .p t15 (Z .bL)) fun t16 =>
 br t16 (bd (aQ [(Z .bL),(I .i64 1)]) fun r2 =>
 some (r2,s1))
 (bd (ab t1 s1.get) fun t17 =>
 ax (aa 41 [] s1) fun t18 s3 =>
 bd (aU (aG [.bL,.ay,.ay,.bL,.int .i64 0] [(0,1,t17),(3,1,t18)])) fun t19 =>
 ax (aL s3 (cf t19)) fun t20 s4 =>
 ck ((decide (ab t1 (cA 2 s3.get (Cx 3 s3.size (cf t19) []))=ab t1 s1.get)&&true)&&true) (bd (ab t1 s4.get) fun t22 =>
 ax (aa 42 [t22,(Z (.str [108,111,103]))] s4) fun t23 s5 =>
 bd (ah t23 0) fun t24 =>
 bd (ah t23 1) fun t25 =>
 ax (aa 43 [t24] s5) fun t28 s6 =>
 bd (ah t28 0) fun t29 =>
 bd (ah t28 1) fun t30 =>
 bd (az t29) fun t32 =>
 jn (jn (loops (tu aa N) N [t1,t20,t29,t32,(I .i64 0)] s6)
 (fun jt gv=>some (.normal [.any,.any],gv))
 (fun i16 jt gv=>if i16=0 then some (.normal jt,gv) else some (.exit i16 jt,gv))
 (fun Fu gv=>some (.ret Fu,gv)))
 (fun ng mf=>bd (ab (ng.getD 0 .any) mf.get) fun t42 =>
 bd (bg (ng.getD 1 .any)) fun t45 =>
 bd (ae 1 t45) fun t46 =>
 bd (ab t46 mf.get) fun t47 =>
 bd (az t47) fun t48 =>
 ax (aa 46 [(ng.getD 1 .any),t48] mf) fun t49 iZ =>
 ax (aa 45 [t42,(Z (.str [108,111,103])),t49] iZ) fun t50 na =>
 ck ((decide (ab (ng.getD 0 .any) iZ.get=ab (ng.getD 0 .any) mf.get)&&true)&&true) (bd (ab (ng.getD 0 .any) na.get) fun t51 =>
 ax (aa 47 [t51,(Z (.str [108,111,103]))] na) fun t52 yS =>
 bd (bg (ng.getD 1 .any)) fun t55 =>
 bd (ae 1 t55) fun t56 =>
 bd (ab t56 yS.get) fun t57 =>
 bd (az t57) fun t58 =>
 bd (bg (ng.getD 1 .any)) fun t59 =>
 bd (ae 4 t59) fun t60 =>
 ax (aw 1 t60 t58 yS) fun _ kV =>
 bd (bg (ng.getD 1 .any)) fun t62 =>
 bd (ae 3 t62) fun t63 =>
 bd (ab t63 kV.get) fun t64 =>
 ax (aa 48 [t64] kV) fun t65 mL =>
 bd (rG 50 [(ng.getD 0 .any)] []) fun t67 =>
 ax (aa 49 [t65,t67] mL) fun t68 sC =>
 br t68 (bd (aQ [(Z .bL),(I .i64 2)]) fun OA =>
 some (OA,sC))
 (bd (ab (ng.getD 0 .any) sC.get) fun t69 =>
 ax (aa 29 [t69] sC) fun t70 nH =>
 bd (az t70) fun t71 =>
 jn (jn (loops (ko aa N) N [(ng.getD 0 .any),(ng.getD 1 .any),t65,t70,t71,(I .i64 0)] nH)
 (fun Gn Bq=>some (.normal [.any],Bq))
 (fun i41 Gn Bq=>if i41=2 then some (.normal Gn,Bq) else some (.exit i41 Gn,Bq))
 (fun ZM Bq=>some (.ret ZM,Bq)))
 (fun Gp DW=>bd (aQ [(Gp.getD 0 .any),(I .i64 0)]) fun r47 =>
 some (r47,DW))
 (fun i45 Gp DW=>none)
 (fun ZO DW=>some (ZO,DW)))))
 (fun i20 ng mf=>none)
 (fun JX mf=>some (JX,mf))))
theorem Qb (aa:ak) (N:Nat) (a0:T) (s:St):aR Tryz.prog aa N Tryz.f14 [a0] s=f14 aa N a0 s:=by kernel_rfl
theorem LN (d:Nat) (a0:T) (s:St):R (d+1) 14 [a0] s=f14 (R d) 8192 a0 s:=(au rfl Tryz.func14 (by kernel_rfl)).trans (Qb ..)
def f51 (aa:ak) (N:Nat) (a0:T) (a1:T) (s:St):Option (T×St) :=
 ax (aL s (cf a1)) fun t3 s1 =>
 bd (ae 0 t3) fun t10 =>
 bd (ab t10 s1.get) fun t11 =>
 ax (aa 69 [t11] s1) fun t12 s2 =>
 ax (aa 42 [a0,t12] s2) fun t13 s3 =>
 bd (ah t13 0) fun t14 =>
 bd (ah t13 1) fun t15 =>
 bd (af .neq t15 (I .i64 0)) fun t17 =>
 br t17 (some ((B false),s3))
 (ax (aa 77 [t14] s3) fun t20 s4 =>
 bd (ah t20 0) fun t21 =>
 bd (ah t20 1) fun t22 =>
 ax (aL s4 (bb [.int .i64 0,.int .i64 0,.int .i64 0,.int .i64 0,.int .u32 0])) fun t7 s5 =>
 ax (aw 5 t7 t21 s5) fun _ s6 =>
 bd (af .eql t22 (I .i64 0)) fun t24 =>
 bd (gT (gd t24 true) (aH 5 t7 s6.get)) fun t26 =>
 bd (gT (gd t24 true) (aH 5 t3 s6.get)) fun t27 =>
 bd (gT (gd t24 true) (fT (.a 5 [(0,.i),(1,.i),(2,.i),(3,.i),(4,.i)]) t26 t27)) fun t28 =>
 bd (aC t24 t28 (B false)) fun t29 =>
 some (t29,s6))
theorem QF (aa:ak) (N:Nat) (a0:T) (a1:T) (s:St):aR Tryz.prog aa N Tryz.f51 [a0,a1] s=f51 aa N a0 a1 s:=by kernel_rfl
theorem MO (d:Nat) (a0:T) (a1:T) (s:St):R (d+1) 51 [a0,a1] s=f51 (R d) 8192 a0 a1 s:=(au rfl Tryz.func51 (by kernel_rfl)).trans (QF ..)
def f46 (aa:ak) (N:Nat) (a0:T) (a1:T) (s:St):Option (T×St) :=
 bd (af .eql a1 (I .i64 0)) fun t6 =>
 br t6 (some ((I .i64 0),s))
 (bd (bg a0) fun t8 =>
 bd (ae 2 t8) fun t9 =>
 bd (ab t9 s.get) fun t10 =>
 bd (af .sub a1 (I .i64 1)) fun t12 =>
 bd (av 1 t10 t12) fun t13 =>
 bd (ab t13 s.get) fun t14 =>
 some (t14,s))
theorem Qz (aa:ak) (N:Nat) (a0:T) (a1:T) (s:St):aR Tryz.prog aa N Tryz.f46 [a0,a1] s=f46 aa N a0 a1 s:=by kernel_rfl
theorem MH (d:Nat) (a0:T) (a1:T) (s:St):R (d+1) 46 [a0,a1] s=f46 (R d) 8192 a0 a1 s:=(au rfl Tryz.func46 (by kernel_rfl)).trans (Qz ..)
def f44 (aa:ak) (N:Nat) (a0:T) (a1:T) (s:St):Option (T×St) :=
 ax (aL s (cf a1)) fun t3 s1 =>
 bd (aH 8 t3 s1.get) fun t8 =>
 ax (aa 95 [t8] s1) fun t9 s2 =>
 bd (ah t9 0) fun t10 =>
 bd (ah t9 1) fun t11 =>
 bd (af .neq t11 (I .i64 0)) fun t13 =>
 bd (gT (gd t13 false) (some a0)) fun t15 =>
 bd (gT (gd t13 false) (bg t15)) fun t16 =>
 bd (gT (gd t13 false) (ae 3 t16)) fun t17 =>
 bd (gT (gd t13 false) (ab t17 s2.get)) fun t18 =>
 bd (gT (gd t13 false) (aH 8 t3 s2.get)) fun t19 =>
 ax (gS (gd t13 false) s2 (aa 96 [t18,t19] s2)) fun t20 s3 =>
 bd (gT (gd t13 false) (af .neq t20 (I .i64 0))) fun t21 =>
 bd (aC t13 (B true) t21) fun t22 =>
 br t22 (some ((B false),s3))
 (bd (bg a0) fun t25 =>
 bd (ae 2 t25) fun t26 =>
 bd (ab t26 s3.get) fun t27 =>
 bd (bg a0) fun t30 =>
 bd (ae 1 t30) fun t31 =>
 bd (ab t31 s3.get) fun t32 =>
 bd (az t32) fun t33 =>
 ax (aa 46 [a0,t33] s3) fun t34 s4 =>
 bd (az t10) fun t36 =>
 bd (af .add t34 t36) fun t37 =>
 ax (aL s4 (aS 1 (aG [.int .i64 0] [(0,1,t37)]))) fun t38 s5 =>
 ax (aJ 1 8 t27 t38 s5) fun t39 s6 =>
 bd (bg a0) fun t40 =>
 bd (ae 2 t40) fun t41 =>
 ax (aw 1 t41 t39 s6) fun _ s7 =>
 ck ((decide (ab t26 (cA 12 s4.get (Cx 15 s4.size (aS 1 (aG [.int .i64 0] [(0,1,t37)])) []))=ab t26 s3.get)&&true)&&true) (bd (bg a0) fun t44 =>
 bd (ae 1 t44) fun t45 =>
 bd (ab t45 s7.get) fun t46 =>
 bd (aH 8 t3 s7.get) fun t47 =>
 ax (aL s7 (aS 1 (aG [.int .i64 0,.int .i64 0,.int .i64 0,.int .i64 0,.int .i64 0,.int .i64 0,.int .u32 0,.str []] [(0,8,t47)]))) fun t48 s8 =>
 ax (aJ 8 72 t46 t48 s8) fun t49 s9 =>
 bd (bg a0) fun t50 =>
 bd (ae 1 t50) fun t51 =>
 ax (aw 1 t51 t49 s9) fun _ bM =>
 some ((B true),bM)))
theorem Qx (aa:ak) (N:Nat) (a0:T) (a1:T) (s:St):aR Tryz.prog aa N Tryz.f44 [a0,a1] s=f44 aa N a0 a1 s:=by kernel_rfl
theorem MG (d:Nat) (a0:T) (a1:T) (s:St):R (d+1) 44 [a0,a1] s=f44 (R d) 8192 a0 a1 s:=(au rfl Tryz.func44 (by kernel_rfl)).trans (Qx ..)
def f68 (aa:ak) (N:Nat) (a0:T) (a1:T) (s:St):Option (T×St) :=
 ax (aL s (cf a1)) fun t3 s1 =>
 bd (aH 8 t3 s1.get) fun t9 =>
 ax (aa 95 [t9] s1) fun t10 s2 =>
 bd (ah t10 0) fun t11 =>
 bd (ah t10 1) fun t12 =>
 bd (af .neq t12 (I .i64 0)) fun t14 =>
 br t14 (some (t12,s2))
 (bd (bg a0) fun t17 =>
 bd (ae 0 t17) fun t18 =>
 bd (ab t18 s2.get) fun t19 =>
 ax (aa 12 [t19,(Z (.str [108,111,103])),t11] s2) fun t21 s3 =>
 bd (af .neq t21 (I .i64 0)) fun t23 =>
 br t23 (some (t21,s3))
 (bd (aH 8 t3 s3.get) fun t26 =>
 ax (aa 44 [a0,t26] s3) fun t27 s4 =>
 some ((I .i64 0),s4)))
theorem QJ (aa:ak) (N:Nat) (a0:T) (a1:T) (s:St):aR Tryz.prog aa N Tryz.f68 [a0,a1] s=f68 aa N a0 a1 s:=by kernel_rfl
theorem Dh (d:Nat) (a0:T) (a1:T) (s:St):R (d+1) 68 [a0,a1] s=f68 (R d) 8192 a0 a1 s:=(au rfl Tryz.func68 (by kernel_rfl)).trans (QJ ..)
def f67 (aa:ak) (N:Nat) (a0:T) (a1:T) (s:St):Option (T×St) :=
 ax (aL s (cf a1)) fun t3 s1 =>
 bd (bg a0) fun t7 =>
 bd (ae 3 t7) fun t8 =>
 bd (ab t8 s1.get) fun t9 =>
 bd (aH 8 t3 s1.get) fun t10 =>
 ax (aa 110 [t9,t10] s1) fun t11 s2 =>
 bd (af .neq t11 (I .i64 0)) fun t13 =>
 br t13 (some (t11,s2))
 (bd (bg a0) fun t16 =>
 bd (ae 1 t16) fun t17 =>
 bd (ab t17 s2.get) fun t18 =>
 bd (az t18) fun t19 =>
 bd (af .eql t19 (I .i64 2000)) fun t20 =>
 br t20 (some ((I .i64 8),s2))
 (some ((I .i64 0),s2)))
theorem QI (aa:ak) (N:Nat) (a0:T) (a1:T) (s:St):aR Tryz.prog aa N Tryz.f67 [a0,a1] s=f67 aa N a0 a1 s:=by kernel_rfl
theorem MQ (d:Nat) (a0:T) (a1:T) (s:St):R (d+1) 67 [a0,a1] s=f67 (R d) 8192 a0 a1 s:=(au rfl Tryz.func67 (by kernel_rfl)).trans (QI ..)
def f18 (aa:ak) (N:Nat) (a0:T) (a1:T) (s:St):Option (T×St) :=
 ax (aL s (cf a1)) fun t3 s1 =>
 bd (fT .p a0 (Z .bL)) fun t7 =>
 br t7 (some ((I .i64 10),s1))
 (bd (aH 8 t3 s1.get) fun t9 =>
 ax (aa 67 [a0,t9] s1) fun t10 s2 =>
 bd (af .neq t10 (I .i64 0)) fun t12 =>
 br t12 (some (t10,s2))
 (bd (ae 0 t3) fun t14 =>
 bd (ab t14 s2.get) fun t15 =>
 bd (af .eql t15 (I .i64 1)) fun t16 =>
 bd (gT (gd t16 false) (ae 0 t3)) fun t18 =>
 bd (gT (gd t16 false) (ab t18 s2.get)) fun t19 =>
 bd (gT (gd t16 false) (af .eql t19 (I .i64 2))) fun t20 =>
 bd (aC t16 (B true) t20) fun t21 =>
 br t21 (some ((I .i64 1),s2))
 (bd (aH 8 t3 s2.get) fun t23 =>
 ax (aa 68 [a0,t23] s2) fun t24 s3 =>
 some (t24,s3))))
theorem Qd (aa:ak) (N:Nat) (a0:T) (a1:T) (s:St):aR Tryz.prog aa N Tryz.f18 [a0,a1] s=f18 aa N a0 a1 s:=by kernel_rfl
theorem Db (d:Nat) (a0:T) (a1:T) (s:St):R (d+1) 18 [a0,a1] s=f18 (R d) 8192 a0 a1 s:=(au rfl Tryz.func18 (by kernel_rfl)).trans (Qd ..)
def f22 (aa:ak) (N:Nat) (a0:T) (a1:T) (a2:T) (s:St):Option (T×St) :=
 bd (fT .p a0 (Z .bL)) fun t15 =>
 br t15 (some ((I .i64 10),s))
 (ax (aa 77 [a1] s) fun t18 s1 =>
 bd (ah t18 0) fun t19 =>
 bd (ah t18 1) fun t20 =>
 ax (aL s1 (bb [.int .i64 0,.int .i64 0,.int .i64 0,.int .i64 0,.int .u32 0])) fun t7 s2 =>
 ax (aw 5 t7 t19 s2) fun _ s3 =>
 bd (af .neq t20 (I .i64 0)) fun t22 =>
 br t22 (some (t20,s3))
 (bd (ae 0 t7) fun t25 =>
 bd (ab t25 s3.get) fun t26 =>
 bd (ae 1 t7) fun t27 =>
 bd (ab t27 s3.get) fun t28 =>
 bd (ae 2 t7) fun t29 =>
 bd (ab t29 s3.get) fun t30 =>
 bd (ae 3 t7) fun t31 =>
 bd (ab t31 s3.get) fun t32 =>
 bd (ae 4 t7) fun t33 =>
 bd (ab t33 s3.get) fun t34 =>
 bd (aU (aG [.int .i64 0,.int .i64 0,.int .i64 0,.int .i64 0,.int .i64 0,.int .i64 0,.int .u32 0,.str []] [(0,1,(I .i64 1)),(1,1,a2),(2,1,t26),(3,1,t28),(4,1,t30),(5,1,t32),(6,1,t34)])) fun t35 =>
 ax (aL s3 (bb [.int .i64 0,.int .i64 0,.int .i64 0,.int .i64 0,.int .i64 0,.int .i64 0,.int .u32 0,.str []])) fun t9 s4 =>
 ax (aw 8 t9 t35 s4) fun _ s5 =>
 bd (aH 8 t9 s5.get) fun t37 =>
 ax (aa 67 [a0,t37] s5) fun t38 s6 =>
 bd (af .neq t38 (I .i64 0)) fun t40 =>
 br t40 (some (t38,s6))
 (bd (ae 0 t7) fun t42 =>
 bd (ab t42 s6.get) fun t43 =>
 ax (aa 69 [t43] s6) fun t44 s7 =>
 bd (bg a0) fun t46 =>
 bd (ae 0 t46) fun t47 =>
 bd (ab t47 s7.get) fun t48 =>
 ax (aa 54 [t48,t44] s7) fun t50 s8 =>
 bd (bg a0) fun t52 =>
 bd (ae 0 t52) fun t53 =>
 bd (ab t53 s8.get) fun t54 =>
 ax (aa 12 [t54,t44,a1] s8) fun t57 s9 =>
 bd (af .neq t57 (I .i64 0)) fun t59 =>
 br t59 (some (t57,s9))
 (bd (bg a0) fun t62 =>
 bd (ae 0 t62) fun t63 =>
 bd (ab t63 s9.get) fun t64 =>
 ax (aa 47 [t64,t44] s9) fun t66 bM =>
 bd (aH 8 t9 bM.get) fun t68 =>
 ax (aa 68 [a0,t68] bM) fun t69 bO =>
 bd (af .neq t69 (I .i64 0)) fun t71 =>
 br t71 (bd (bg a0) fun t73 =>
 bd (ae 0 t73) fun t74 =>
 bd (ab t74 bO.get) fun t75 =>
 ax (aa 54 [t75,t44] bO) fun t77 bW =>
 some (t69,bW))
 (some ((I .i64 0),bO))))))
theorem Qh (aa:ak) (N:Nat) (a0:T) (a1:T) (a2:T) (s:St):aR Tryz.prog aa N Tryz.f22 [a0,a1,a2] s=f22 aa N a0 a1 a2 s:=by kernel_rfl
theorem rZ (d:Nat) (a0:T) (a1:T) (a2:T) (s:St):R (d+1) 22 [a0,a1,a2] s=f22 (R d) 8192 a0 a1 a2 s:=(au rfl Tryz.func22 (by kernel_rfl)).trans (Qh ..)
def f19 (aa:ak) (N:Nat) (a0:T) (s:St):Option (T×St) :=
 bd (fT .p a0 (Z .bL)) fun t4 =>
 br t4 (some ((I .i64 10),s))
 (bd (bg a0) fun t6 =>
 bd (ae 0 t6) fun t7 =>
 bd (ab t7 s.get) fun t8 =>
 ax (aa 47 [t8,(Z (.str [108,111,103]))] s) fun t9 s1 =>
 bd (bg a0) fun t12 =>
 bd (ae 1 t12) fun t13 =>
 bd (ab t13 s1.get) fun t14 =>
 bd (az t14) fun t15 =>
 bd (bg a0) fun t16 =>
 bd (ae 4 t16) fun t17 =>
 ax (aw 1 t17 t15 s1) fun _ s2 =>
 some ((I .i64 0),s2))
theorem Qe (aa:ak) (N:Nat) (a0:T) (s:St):aR Tryz.prog aa N Tryz.f19 [a0] s=f19 aa N a0 s:=by kernel_rfl
theorem Mk (d:Nat) (a0:T) (s:St):R (d+1) 19 [a0] s=f19 (R d) 8192 a0 s:=(au rfl Tryz.func19 (by kernel_rfl)).trans (Qe ..)
def f27 (aa:ak) (N:Nat) (a0:T) (s:St):Option (T×St) :=
 bd (fT .p a0 (Z .bL)) fun t4 =>
 br t4 (some ((Z .ay),s))
 (bd (bg a0) fun t6 =>
 bd (ae 3 t6) fun t7 =>
 bd (ab t7 s.get) fun t8 =>
 ax (aa 48 [t8] s) fun t9 s1 =>
 some (t9,s1))
theorem Qm (aa:ak) (N:Nat) (a0:T) (s:St):aR Tryz.prog aa N Tryz.f27 [a0] s=f27 aa N a0 s:=by kernel_rfl
theorem MA (d:Nat) (a0:T) (s:St):R (d+1) 27 [a0] s=f27 (R d) 8192 a0 s:=(au rfl Tryz.func27 (by kernel_rfl)).trans (Qm ..)
def f23 (aa:ak) (N:Nat) (a0:T) (s:St):Option (T×St) :=
 bd (fT .p a0 (Z .bL)) fun t4 =>
 br t4 (some ((Z .ay),s))
 (bd (bg a0) fun t6 =>
 bd (ae 1 t6) fun t7 =>
 bd (ab t7 s.get) fun t8 =>
 ax (aa 78 [t8] s) fun t9 s1 =>
 some (t9,s1))
theorem Qi (aa:ak) (N:Nat) (a0:T) (s:St):aR Tryz.prog aa N Tryz.f23 [a0] s=f23 aa N a0 s:=by kernel_rfl
theorem Mv (d:Nat) (a0:T) (s:St):R (d+1) 23 [a0] s=f23 (R d) 8192 a0 s:=(au rfl Tryz.func23 (by kernel_rfl)).trans (Qi ..)
def f24 (aa:ak) (N:Nat) (a0:T) (s:St):Option (T×St) :=
 bd (fT .p a0 (Z .bL)) fun t4 =>
 br t4 (some ((I .i64 0),s))
 (bd (bg a0) fun t6 =>
 bd (ae 4 t6) fun t7 =>
 bd (ab t7 s.get) fun t8 =>
 some (t8,s))
theorem Qj (aa:ak) (N:Nat) (a0:T) (s:St):aR Tryz.prog aa N Tryz.f24 [a0] s=f24 aa N a0 s:=by kernel_rfl
theorem Mw (d:Nat) (a0:T) (s:St):R (d+1) 24 [a0] s=f24 (R d) 8192 a0 s:=(au rfl Tryz.func24 (by kernel_rfl)).trans (Qj ..)
def f32 (aa:ak) (N:Nat) (a0:T) (s:St):Option (T×St) :=
 ax (aL s (bb [.int .i64 0,.int .i64 0,.int .i64 0,.int .i64 0,.int .i64 0,.int .i64 0])) fun t2 s1 =>
 bd (fT .p a0 (Z .bL)) fun t4 =>
 br t4 (bd (aU (aG [.int .i64 0,.int .i64 0,.int .i64 0,.int .i64 0,.int .i64 0,.int .i64 0] [])) fun t5 =>
 ax (aw 6 t2 t5 s1) fun _ s2 =>
 bd (rC (aH 6 t2 s2.get) (some [])) fun l3=>bd (aQ l3) fun r4 =>
 some (r4,s2))
 (bd (bg a0) fun t7 =>
 bd (ae 3 t7) fun t8 =>
 bd (ab t8 s1.get) fun t9 =>
 ax (aa 84 [t9] s1) fun t10 s5 =>
 ax (aw 6 t2 t10 s5) fun _ s6 =>
 bd (rC (aH 6 t2 s6.get) (some [])) fun l7=>bd (aQ l7) fun r8 =>
 some (r8,s6))
def f28 (aa:ak) (N:Nat) (a0:T) (a1:T) (s:St):Option (T×St) :=
 ax (aL s (cf a1)) fun t3 s1 =>
 ax (aL s1 (bb [.int .i64 0,.int .i64 0,.int .i64 0,.int .i64 0,.ay,.ay])) fun t4 s2 =>
 bd (fT .p a0 (Z .bL)) fun t9 =>
 br t9 (bd (aU (aG [.int .i64 0,.int .i64 0,.int .i64 0,.int .i64 0,.ay,.ay] [])) fun t10 =>
 ax (aw 6 t4 t10 s2) fun _ s3 =>
 bd (rC (aH 6 t4 s3.get) (rT (I .i64 10) (some []))) fun l4=>bd (aQ l4) fun r5 =>
 some (r5,s3))
 (bd (bg a0) fun t12 =>
 bd (ae 3 t12) fun t13 =>
 bd (ab t13 s2.get) fun t14 =>
 ax (aa 48 [t14] s2) fun t15 s6 =>
 bd (rG 80 [t3] []) fun t16 =>
 ax (aa 49 [t15,t16] s6) fun t17 s7 =>
 bd (jZ .not t17) fun t18 =>
 br t18 (bd (aU (aG [.int .i64 0,.int .i64 0,.int .i64 0,.int .i64 0,.ay,.ay] [])) fun t19 =>
 ax (aw 6 t4 t19 s7) fun _ s8 =>
 bd (rC (aH 6 t4 s8.get) (rT (I .i64 9) (some []))) fun l9=>bd (aQ l9) fun oR =>
 some (oR,s8))
 (bd (bg a0) fun t22 =>
 bd (ae 0 t22) fun t23 =>
 bd (ab t23 s7.get) fun t24 =>
 bd (ab t3 s7.get) fun t25 =>
 ax (aa 69 [t25] s7) fun t26 bO =>
 ax (aa 42 [t24,t26] bO) fun t27 bW =>
 bd (ah t27 0) fun t28 =>
 bd (ah t27 1) fun t29 =>
 ck ((decide (ab t23 bO.get=ab t23 s7.get)&&true)&&true) (bd (af .neq t29 (I .i64 0)) fun t31 =>
 br t31 (bd (aU (aG [.int .i64 0,.int .i64 0,.int .i64 0,.int .i64 0,.ay,.ay] [])) fun t32 =>
 ax (aw 6 t4 t32 bW) fun _ dX =>
 bd (rC (aH 6 t4 dX.get) (rT t29 (some []))) fun RX=>bd (aQ RX) fun Fs =>
 some (Fs,dX))
 (ax (aa 81 [t28] bW) fun t35 fV =>
 bd (ah t35 0) fun t36 =>
 bd (ah t35 1) fun t37 =>
 ax (aw 6 t4 t36 fV) fun _ iI =>
 bd (rC (aH 6 t4 iI.get) (rT t37 (some []))) fun l18=>bd (aQ l18) fun ym =>
 some (ym,iI)))))
theorem Qn (aa:ak) (N:Nat) (a0:T) (a1:T) (s:St):aR Tryz.prog aa N Tryz.f28 [a0,a1] s=f28 aa N a0 a1 s:=by kernel_rfl
theorem MB (d:Nat) (a0:T) (a1:T) (s:St):R (d+1) 28 [a0,a1] s=f28 (R d) 8192 a0 a1 s:=(au rfl Tryz.func28 (by kernel_rfl)).trans (Qn ..)
def f17 (aa:ak) (N:Nat) (a0:T) (a1:T) (a2:T) (s:St):Option (T×St) :=
 bd (fT .p a0 (Z .bL)) fun t11 =>
 br t11 (some ((I .i64 10),s))
 (bd (aU (aG [.int .i64 0,.int .i64 0,.int .i64 0,.int .i64 0,.int .i64 0,.int .i64 0,.int .u32 0,.str []] [(0,1,(I .i64 2)),(1,1,a2),(2,1,a1)])) fun t14 =>
 ax (aL s (bb [.int .i64 0,.int .i64 0,.int .i64 0,.int .i64 0,.int .i64 0,.int .i64 0,.int .u32 0,.str []])) fun t7 s1 =>
 ax (aw 8 t7 t14 s1) fun _ s2 =>
 bd (aH 8 t7 s2.get) fun t16 =>
 ax (aa 67 [a0,t16] s2) fun t17 s3 =>
 bd (af .neq t17 (I .i64 0)) fun t19 =>
 br t19 (some (t17,s3))
 (bd (aH 8 t7 s3.get) fun t22 =>
 ax (aa 68 [a0,t22] s3) fun t23 s4 =>
 bd (af .neq t23 (I .i64 0)) fun t25 =>
 br t25 (some (t23,s4))
 (ax (aa 19 [a0] s4) fun t28 s5 =>
 bd (bg a0) fun t30 =>
 bd (ae 0 t30) fun t31 =>
 bd (ab t31 s5.get) fun t32 =>
 ax (aa 69 [a1] s5) fun t34 s6 =>
 ax (aa 54 [t32,t34] s6) fun t35 s7 =>
 ck ((decide (ab t31 s6.get=ab t31 s5.get)&&true)&&true) (some ((I .i64 0),s7)))))
theorem Qc (aa:ak) (N:Nat) (a0:T) (a1:T) (a2:T) (s:St):aR Tryz.prog aa N Tryz.f17 [a0,a1,a2] s=f17 aa N a0 a1 a2 s:=by kernel_rfl
theorem xK (d:Nat) (a0:T) (a1:T) (a2:T) (s:St):R (d+1) 17 [a0,a1,a2] s=f17 (R d) 8192 a0 a1 a2 s:=(au rfl Tryz.func17 (by kernel_rfl)).trans (Qc ..)
end
noncomputable section
def TL (aa:ak) (N:Nat) (v:List T) (s:St):Option (JO×St) :=
 bd (az (v.getD 0 .any)) fun t30 =>
 bd (af .lss (v.getD 6 .any) t30) fun t31 =>
 bd (gT (gd t31 true) (some (v.getD 6 .any))) fun t33 =>
 bd (gT (gd t31 true) (af .lss t33 (I .i64 10))) fun t34 =>
 bd (aC t31 t34 (B false)) fun t35 =>
 br t35 (jn (bd (av 1 (v.getD 0 .any) (v.getD 6 .any)) fun t40 =>
 bd (ab t40 s.get) fun t41 =>
 bd (aI .u64 t41) fun t42 =>
 bd (af .rem t42 (I .u64 64)) fun t43 =>
 bd (aI .i64 t43) fun t44 =>
 bd (af .add (I .i64 1) t44) fun t45 =>
 bd (af .quo t45 (I .i64 10)) fun t47 =>
 bd (af .quo t45 (I .i64 10)) fun t49 =>
 bd (af .add t49 (I .i64 1)) fun t50 =>
 bd (bD (Z (.str [48,49,50,51,52,53,54,55,56,57])) (some t47) (some t50) none) fun t51 =>
 bd (af .add (Z (.str [115,101,97,108,32])) t51) fun t52 =>
 bd (af .rem t45 (I .i64 10)) fun t54 =>
 bd (af .rem t45 (I .i64 10)) fun t56 =>
 bd (af .add t56 (I .i64 1)) fun t57 =>
 bd (bD (Z (.str [48,49,50,51,52,53,54,55,56,57])) (some t54) (some t57) none) fun t58 =>
 bd (af .add t52 t58) fun t59 =>
 bd (aU (aG [.int .i64 0,.int .i64 0,.int .i64 0,.int .i64 0,.int .i64 0,.int .i64 0,.int .u32 0,.str []] [(0,1,(I .i64 4)),(7,1,t59)])) fun t62 =>
 ax (aa 18 [(v.getD 3 .any),t62] s) fun t63 s3 =>
 bd (af .neq t63 (I .i64 0)) fun t64 =>
 br t64 (some (.ret (B false),s3))
 (ax (aL s3 (aS 1 (aG [.int .i64 0] [(0,1,t45)]))) fun t67 s4 =>
 ax (aJ 1 8 (v.getD 4 .any) t67 s4) fun t68 s5 =>
 bd (av 1 (v.getD 0 .any) (v.getD 6 .any)) fun t71 =>
 bd (ab t71 s5.get) fun t72 =>
 bd (aI .u64 t72) fun t73 =>
 bd (af .quo t73 (I .u64 64)) fun t74 =>
 bd (af .rem t74 (I .u64 3)) fun t75 =>
 bd (af .eql t75 (I .u64 0)) fun t76 =>
 jn (br t76 (ax (aa 19 [(v.getD 3 .any)] s5) fun t78 s6 =>
 bd (af .neq t78 (I .i64 0)) fun t79 =>
 br t79 (some (.ret (B false),s6))
 (bd (az t68) fun t81 =>
 some (.normal [(v.getD 0 .any),(v.getD 1 .any),(v.getD 2 .any),(v.getD 3 .any),t68,t81,(v.getD 6 .any),t45],s6)))
 (some (.normal [(v.getD 0 .any),(v.getD 1 .any),(v.getD 2 .any),(v.getD 3 .any),t68,(v.getD 5 .any),(v.getD 6 .any),t45],s5)))
 (fun v7 s8=>ax (aa 32 [(v7.getD 3 .any)] s8) fun t83 bO =>
 bd (px none 4 t83) fun t84 =>
 bd (af .neq t84 (v7.getD 7 .any)) fun t86 =>
 bd (gT (gd t86 false) (some (v7.getD 3 .any))) fun t88 =>
 ax (gS (gd t86 false) bO (aa 24 [t88] bO)) fun t89 bW =>
 bd (gT (gd t86 false) (some (v7.getD 5 .any))) fun t90 =>
 bd (gT (gd t86 false) (af .neq t89 t90)) fun t91 =>
 bd (aC t86 (B true) t91) fun t92 =>
 br t92 (some (.ret (B false),bW))
 (some (.normal [(v7.getD 0 .any),(v7.getD 1 .any),(v7.getD 2 .any),(v7.getD 3 .any),(v7.getD 4 .any),(v7.getD 5 .any),(v7.getD 6 .any)],bW)))
 (fun i9 v7 s8=>if i9=1 then some (.normal v7,s8) else some (.exit i9 v7,s8))
 (fun oR s8=>some (.ret oR,s8))))
 (fun lB fR=>bd (af .add (lB.getD 6 .any) (I .i64 1)) fun t37 =>
 some (.normal [(lB.getD 0 .any),(lB.getD 1 .any),(lB.getD 2 .any),(lB.getD 3 .any),(lB.getD 4 .any),(lB.getD 5 .any),t37],fR))
 (fun i15 lB fR=>some (.exit i15 lB,fR))
 (fun r16 fR=>some (.ret r16,fR)))
 (some (.exit 0 [(v.getD 1 .any),(v.getD 2 .any),(v.getD 4 .any),(v.getD 5 .any)],s))
def f6 (aa:ak) (N:Nat) (a0:T) (a1:T) (s:St):Option (T×St) :=
 ax (aa 10 [(I .i64 10000)] s) fun t16 s1 =>
 ax (aa 14 [t16] s1) fun t19 s2 =>
 bd (ah t19 0) fun t20 =>
 bd (ah t19 1) fun t21 =>
 bd (af .neq t21 (I .i64 0)) fun t23 =>
 bd (gT (gd t23 false) (some t20)) fun t25 =>
 bd (gT (gd t23 false) (fT .p t25 (Z .bL))) fun t26 =>
 bd (aC t23 (B true) t26) fun t27 =>
 br t27 (some ((B false),s2))
 (jn (jn (loops (TL aa N) N [a0,a1,t16,t20,(Z .ay),(I .i64 0),(I .i64 0)] s2)
 (fun jF gV=>some (.normal [.any,.any,.any,.any],gV))
 (fun i19 jF gV=>if i19=0 then some (.normal jF,gV) else some (.exit i19 jF,gV))
 (fun CF gV=>some (.ret CF,gV)))
 (fun v21 iZ=>ax (aL iZ (aS 1 (aG [.int .i64 0] [(0,1,(v21.getD 0 .any))]))) fun t95 kV =>
 ax (aa 25 [(v21.getD 1 .any),t95] kV) fun t96 mL =>
 ax (aa 14 [(v21.getD 1 .any)] mL) fun t99 sC =>
 bd (ah t99 0) fun t100 =>
 bd (ah t99 1) fun t101 =>
 bd (af .neq t101 (I .i64 0)) fun t103 =>
 bd (gT (gd t103 false) (some t100)) fun t105 =>
 bd (gT (gd t103 false) (fT .p t105 (Z .bL))) fun t106 =>
 bd (aC t103 (B true) t106) fun t107 =>
 br t107 (some ((B false),sC))
 (ax (aa 23 [t100] sC) fun t109 yT =>
 bd (az t109) fun t110 =>
 bd (af .lss t110 (v21.getD 3 .any)) fun t113 =>
 bd (gT (gd t113 false) (some t110)) fun t115 =>
 bd (gT (gd t113 false) (some (v21.getD 2 .any))) fun t116 =>
 bd (gT (gd t113 false) (az t116)) fun t117 =>
 bd (gT (gd t113 false) (af .gtr t115 t117)) fun t118 =>
 bd (aC t113 (B true) t118) fun t119 =>
 br t119 (some ((B false),yT))
 (ax (aa 7 [] yT) fun t120 nH =>
 bd (gT (gd t120 true) (some t110)) fun t122 =>
 bd (gT (gd t120 true) (af .eql t122 (I .i64 0))) fun t123 =>
 bd (gT (gd t120 true) (some t123)) fun t124 =>
 bd (gT (gd t124 true) (some t100)) fun t125 =>
 ax (gS (gd t124 true) nH (aa 32 [t125] nH)) fun t126 rl =>
 bd (gT (gd t124 true) (px none 4 t126)) fun t127 =>
 bd (gT (gd t124 true) (af .eql t127 (I .i64 8))) fun t128 =>
 bd (gT (gd t120 true) (aC t124 t128 (B false))) fun t129 =>
 bd (gT (gd t120 true) (some t129)) fun t130 =>
 bd (gT (gd t130 false) (some t110)) fun t131 =>
 bd (gT (gd t130 false) (af .gtr t131 (I .i64 0))) fun t132 =>
 bd (gT (gd t130 false) (some t132)) fun t133 =>
 bd (gT (gd t133 true) (some t100)) fun t134 =>
 ax (gS (gd t133 true) rl (aa 32 [t134] rl)) fun t135 wM =>
 bd (gT (gd t133 true) (px none 4 t135)) fun t136 =>
 bd (gT (gd t133 true) (some (v21.getD 2 .any))) fun t137 =>
 bd (gT (gd t133 true) (some t110)) fun t138 =>
 bd (gT (gd t133 true) (af .sub t138 (I .i64 1))) fun t139 =>
 bd (gT (gd t133 true) (av 1 t137 t139)) fun t140 =>
 bd (gT (gd t133 true) (ab t140 wM.get)) fun t141 =>
 bd (gT (gd t133 true) (af .eql t136 t141)) fun t142 =>
 bd (gT (gd t130 false) (aC t133 t142 (B false))) fun t143 =>
 bd (gT (gd t120 true) (aC t130 (B true) t143)) fun t144 =>
 bd (aC t120 t144 (B false)) fun t145 =>
 bd (gT (gd t145 true) (some (v21.getD 0 .any))) fun t147 =>
 bd (gT (gd t145 true) (af .gtr t147 (I .i64 0))) fun t148 =>
 bd (gT (gd t145 true) (some t148)) fun t149 =>
 bd (gT (gd t149 false) (some t110)) fun t150 =>
 bd (gT (gd t149 false) (some (v21.getD 3 .any))) fun t151 =>
 bd (gT (gd t149 false) (af .eql t150 t151)) fun t152 =>
 bd (gT (gd t145 true) (aC t149 (B true) t152)) fun t153 =>
 bd (aC t145 t153 (B false)) fun t154 =>
 ck ((wq (gd t133 true) (decide (ab t140 rl.get=ab t140 wM.get))&&true)&&true) (some (t154,wM)))))
 (fun i23 v21 iZ=>none)
 (fun JY iZ=>some (JY,iZ)))
def TK (aa:ak) (N:Nat) (v:List T) (s:St):Option (JO×St) :=
 bd (af .lss (v.getD 4 .any) (I .i64 150)) fun t33 =>
 br t33 (jn (ax (aL s (aS 2 (aG [.int .i64 0,.int .i64 0] [(0,1,(I .i64 3)),(1,1,(I .i64 4))]))) fun t39 s3 =>
 ax (aa 21 [(v.getD 4 .any),(v.getD 4 .any),t39,(Z .ay)] s3) fun t40 s4 =>
 ax (aa 20 [t40] s4) fun t41 s5 =>
 bd (ah t41 0) fun t42 =>
 bd (ah t41 1) fun t43 =>
 ax (aL s5 (qi t42)) fun t46 s6 =>
 ax (aa 22 [(v.getD 2 .any),t46,(I .i64 0)] s6) fun t47 s7 =>
 bd (af .eql t47 (I .i64 8)) fun t49 =>
 br t49 (some (.exit 0 [(v.getD 0 .any),(v.getD 1 .any),(v.getD 2 .any),(v.getD 3 .any)],s7))
 (bd (af .neq t47 (I .i64 0)) fun t51 =>
 br t51 (some (.ret (B false),s7))
 (bd (af .add (v.getD 3 .any) (I .i64 1)) fun t53 =>
 some (.normal [(v.getD 0 .any),(v.getD 1 .any),(v.getD 2 .any),t53,(v.getD 4 .any)],s7))))
 (fun v8 s9=>bd (af .add (v8.getD 4 .any) (I .i64 1)) fun t35 =>
 some (.normal [(v8.getD 0 .any),(v8.getD 1 .any),(v8.getD 2 .any),(v8.getD 3 .any),t35],s9))
 (fun i10 v8 s9=>some (.exit i10 v8,s9))
 (fun Vr s9=>some (.ret Vr,s9)))
 (some (.exit 0 [(v.getD 0 .any),(v.getD 1 .any),(v.getD 2 .any),(v.getD 3 .any)],s))
def f5 (aa:ak) (N:Nat) (a0:T) (s:St):Option (T×St) :=
 bd (aI .u64 a0) fun t15 =>
 bd (af .rem t15 (I .u64 1800)) fun t16 =>
 bd (aI .i64 t16) fun t17 =>
 bd (af .add (I .i64 200) t17) fun t18 =>
 ax (aa 10 [t18] s) fun t20 s1 =>
 ax (aa 14 [t20] s1) fun t23 s2 =>
 bd (ah t23 0) fun t24 =>
 bd (ah t23 1) fun t25 =>
 bd (af .neq t25 (I .i64 0)) fun t27 =>
 bd (gT (gd t27 false) (some t24)) fun t29 =>
 bd (gT (gd t27 false) (fT .p t29 (Z .bL))) fun t30 =>
 bd (aC t27 (B true) t30) fun t31 =>
 br t31 (some ((B false),s2))
 (jn (jn (loops (TK aa N) N [t18,t20,t24,(I .i64 0),(I .i64 0)] s2)
 (fun v12 dX=>some (.normal [.any,.any,.any,.any],dX))
 (fun i14 v12 dX=>if i14=0 then some (.normal v12,dX) else some (.exit i14 v12,dX))
 (fun Fs dX=>some (.ret Fs,dX)))
 (fun gW iI=>ax (aa 19 [(gW.getD 2 .any)] iI) fun t55 mg =>
 bd (af .neq t55 (I .i64 0)) fun t56 =>
 bd (gT (gd t56 false) (some (gW.getD 2 .any))) fun t58 =>
 ax (gS (gd t56 false) mg (aa 27 [t58] mg)) fun t59 kU =>
 bd (gT (gd t56 false) (az t59)) fun t60 =>
 bd (gT (gd t56 false) (some (gW.getD 3 .any))) fun t61 =>
 bd (gT (gd t56 false) (af .neq t60 t61)) fun t62 =>
 bd (aC t56 (B true) t62) fun t63 =>
 bd (gT (gd t63 false) (some (gW.getD 1 .any))) fun t65 =>
 ax (gS (gd t63 false) kU (aa 30 [t65] kU)) fun t66 iZ =>
 bd (gT (gd t63 false) (some (gW.getD 0 .any))) fun t67 =>
 bd (gT (gd t63 false) (af .gtr t66 t67)) fun t68 =>
 bd (aC t63 (B true) t68) fun t69 =>
 br t69 (some ((B false),iZ))
 (ax (aa 25 [(gW.getD 1 .any),(Z .ay)] iZ) fun t71 na =>
 ax (aa 14 [(gW.getD 1 .any)] na) fun t74 yS =>
 bd (ah t74 0) fun t75 =>
 bd (ah t74 1) fun t76 =>
 ax (aa 7 [] yS) fun t77 kV =>
 bd (gT (gd t77 true) (some t76)) fun t79 =>
 bd (gT (gd t77 true) (af .eql t79 (I .i64 0))) fun t80 =>
 bd (aC t77 t80 (B false)) fun t81 =>
 bd (gT (gd t81 true) (some t75)) fun t83 =>
 bd (gT (gd t81 true) (Bn .p t83 (Z .bL))) fun t84 =>
 bd (aC t81 t84 (B false)) fun t85 =>
 bd (gT (gd t85 true) (some t75)) fun t87 =>
 ax (gS (gd t85 true) kV (aa 27 [t87] kV)) fun t88 mL =>
 bd (gT (gd t85 true) (az t88)) fun t89 =>
 bd (gT (gd t85 true) (some (gW.getD 3 .any))) fun t90 =>
 bd (gT (gd t85 true) (af .eql t89 t90)) fun t91 =>
 bd (aC t85 t91 (B false)) fun t92 =>
 bd (gT (gd t92 true) (some (gW.getD 3 .any))) fun t94 =>
 bd (gT (gd t92 true) (af .eql t94 (I .i64 0))) fun t95 =>
 bd (gT (gd t92 true) (some t95)) fun t96 =>
 bd (gT (gd t96 false) (some (gW.getD 3 .any))) fun t97 =>
 bd (gT (gd t96 false) (af .geq t97 (I .i64 150))) fun t98 =>
 bd (gT (gd t92 true) (aC t96 (B true) t98)) fun t99 =>
 bd (gT (gd t92 true) (some t99)) fun t100 =>
 bd (gT (gd t100 false) (some t75)) fun t101 =>
 ax (gS (gd t100 false) mL (aa 23 [t101] mL)) fun t102 sC =>
 bd (gT (gd t100 false) (az t102)) fun t103 =>
 bd (gT (gd t100 false) (some (gW.getD 3 .any))) fun t104 =>
 bd (gT (gd t100 false) (af .eql t103 t104)) fun t105 =>
 bd (gT (gd t92 true) (aC t100 (B true) t105)) fun t106 =>
 bd (aC t92 t106 (B false)) fun t107 =>
 some (t107,sC)))
 (fun i18 gW iI=>none)
 (fun ym iI=>some (ym,iI)))
end
noncomputable section
def TP (aa:ak) (N:Nat) (v:List T) (s:St):Option (JO×St) :=
 bd (az (v.getD 0 .any)) fun t14 =>
 bd (af .lss (v.getD 6 .any) t14) fun t15 =>
 bd (gT (gd t15 true) (some (v.getD 6 .any))) fun t17 =>
 bd (gT (gd t15 true) (af .lss t17 (I .i64 40))) fun t18 =>
 bd (aC t15 t18 (B false)) fun t19 =>
 br t19 (jn (bd (av 1 (v.getD 0 .any) (v.getD 6 .any)) fun t24 =>
 bd (ab t24 s.get) fun t25 =>
 bd (aI .u64 t25) fun t26 =>
 jn (bd (af .rem t26 (I .u64 8)) fun t57 =>
 bd (af .eql t57 (I .u64 7)) fun t58 =>
 jn (br t58 (bd (af .add (v.getD 3 .any) (I .i64 1)) fun t60 =>
 bd (aU (aG [.int .i64 0,.int .i64 0,.int .i64 0,.int .i64 0,.int .i64 0,.int .i64 0,.int .u32 0,.str []] [(0,1,(I .i64 3)),(1,1,t60)])) fun t63 =>
 ax (aL s (aS 1 (aG [.int .i64 0,.int .i64 0,.int .i64 0,.int .i64 0,.int .i64 0,.int .i64 0,.int .u32 0,.str []] [(0,8,t63)]))) fun t64 s1 =>
 ax (aJ 8 72 (v.getD 1 .any) t64 s1) fun t65 s2 =>
 some (.normal [(v.getD 0 .any),t65,(v.getD 2 .any),t60,(v.getD 4 .any),(v.getD 5 .any),(v.getD 6 .any)],s2))
 (bd (af .rem t26 (I .u64 8)) fun t68 =>
 bd (af .eql t68 (I .u64 6)) fun t69 =>
 jn (br t69 (ax (aL s (aS 3 (aG [.str [],.str [],.str []] [(0,1,(Z (.str [49]))),(1,1,(Z (.str [57]))),(2,1,(Z (.str [51,51])))]))) fun t72 s3 =>
 bd (af .quo t26 (I .u64 8)) fun t74 =>
 bd (af .rem t74 (I .u64 3)) fun t75 =>
 bd (av 1 t72 t75) fun t76 =>
 bd (ab t76 s3.get) fun t77 =>
 bd (af .add (Z (.str [115,101,97,108,32])) t77) fun t78 =>
 bd (aU (aG [.int .i64 0,.int .i64 0,.int .i64 0,.int .i64 0,.int .i64 0,.int .i64 0,.int .u32 0,.str []] [(0,1,(I .i64 4)),(1,1,(v.getD 3 .any)),(7,1,t78)])) fun t79 =>
 ax (aL s3 (aS 1 (aG [.int .i64 0,.int .i64 0,.int .i64 0,.int .i64 0,.int .i64 0,.int .i64 0,.int .u32 0,.str []] [(0,8,t79)]))) fun t80 s4 =>
 ax (aJ 8 72 (v.getD 1 .any) t80 s4) fun t81 s5 =>
 some (.normal [(v.getD 0 .any),t81,(v.getD 2 .any),(v.getD 3 .any),(v.getD 4 .any),(v.getD 5 .any),(v.getD 6 .any)],s5))
 (bd (af .rem t26 (I .u64 8)) fun t84 =>
 bd (af .gtr t84 (I .u64 3)) fun t85 =>
 bd (gT (gd t85 true) (some (v.getD 2 .any))) fun t87 =>
 bd (gT (gd t85 true) (az t87)) fun t88 =>
 bd (gT (gd t85 true) (af .gtr t88 (I .i64 0))) fun t89 =>
 bd (aC t85 t89 (B false)) fun t90 =>
 jn (br t90 (bd (af .quo t26 (I .u64 8)) fun t92 =>
 bd (az (v.getD 2 .any)) fun t94 =>
 bd (aI .u64 t94) fun t95 =>
 bd (af .rem t92 t95) fun t96 =>
 bd (aI .i64 t96) fun t97 =>
 bd (av 1 (v.getD 2 .any) t97) fun t102 =>
 bd (ab t102 s.get) fun t103 =>
 bd (aU (aG [.int .i64 0,.int .i64 0,.int .i64 0,.int .i64 0,.int .i64 0,.int .i64 0,.int .u32 0,.str []] [(0,1,(I .i64 2)),(1,1,(v.getD 3 .any)),(2,1,t103)])) fun t104 =>
 ax (aL s (aS 1 (aG [.int .i64 0,.int .i64 0,.int .i64 0,.int .i64 0,.int .i64 0,.int .i64 0,.int .u32 0,.str []] [(0,8,t104)]))) fun t105 s6 =>
 ax (aJ 8 72 (v.getD 1 .any) t105 s6) fun t106 s7 =>
 bd (aB 1 (v.getD 2 .any) none (some t97) (some t97)) fun t110 =>
 bd (af .add t97 (I .i64 1)) fun t113 =>
 bd (aB 1 (v.getD 2 .any) (some t113) none none) fun t114 =>
 ax (aJ 1 8 t110 t114 s7) fun t115 s8 =>
 some (.normal [(v.getD 0 .any),t106,t115,(v.getD 3 .any),(v.getD 4 .any),(v.getD 5 .any),(v.getD 6 .any)],s8))
 (bd (af .add (v.getD 4 .any) (I .i64 1)) fun t28 =>
 bd (af .add (v.getD 5 .any) (I .i64 1)) fun t30 =>
 bd (af .quo t26 (I .u64 8)) fun t32 =>
 bd (af .rem t32 (I .u64 30)) fun t33 =>
 bd (aI .i64 t33) fun t34 =>
 bd (af .add t30 t34) fun t35 =>
 bd (af .quo t26 (I .u64 8)) fun t40 =>
 bd (af .rem t40 (I .u64 4)) fun t41 =>
 bd (aI .i64 t41) fun t42 =>
 bd (aI .u32 t26) fun t46 =>
 bd (aU (aG [.int .i64 0,.int .i64 0,.int .i64 0,.int .i64 0,.int .i64 0,.int .i64 0,.int .u32 0,.str []] [(0,1,(I .i64 1)),(1,1,(v.getD 3 .any)),(2,1,t28),(3,1,t42),(4,1,(v.getD 5 .any)),(5,1,t35),(6,1,t46)])) fun t47 =>
 ax (aL s (aS 1 (aG [.int .i64 0,.int .i64 0,.int .i64 0,.int .i64 0,.int .i64 0,.int .i64 0,.int .u32 0,.str []] [(0,8,t47)]))) fun t48 s9 =>
 ax (aJ 8 72 (v.getD 1 .any) t48 s9) fun t49 bM =>
 ax (aL bM (aS 1 (aG [.int .i64 0] [(0,1,t28)]))) fun t52 bO =>
 ax (aJ 1 8 (v.getD 2 .any) t52 bO) fun t53 bW =>
 some (.normal [(v.getD 0 .any),t49,t53,(v.getD 3 .any),t28,t35,(v.getD 6 .any)],bW)))
 (fun lB fR=>some (.normal [(lB.getD 0 .any),(lB.getD 1 .any),(lB.getD 2 .any),(lB.getD 3 .any),(lB.getD 4 .any),(lB.getD 5 .any),(lB.getD 6 .any)],fR))
 (fun i15 lB fR=>some (.exit i15 lB,fR))
 (fun r16 fR=>some (.ret r16,fR))))
 (fun jF gV=>some (.normal [(jF.getD 0 .any),(jF.getD 1 .any),(jF.getD 2 .any),(jF.getD 3 .any),(jF.getD 4 .any),(jF.getD 5 .any),(jF.getD 6 .any)],gV))
 (fun i19 jF gV=>some (.exit i19 jF,gV))
 (fun CF gV=>some (.ret CF,gV))))
 (fun v21 iZ=>some (.normal [(v21.getD 0 .any),(v21.getD 1 .any),(v21.getD 2 .any),(v21.getD 3 .any),(v21.getD 4 .any),(v21.getD 5 .any),(v21.getD 6 .any)],iZ))
 (fun i23 v21 iZ=>if i23=2 then some (.normal v21,iZ) else some (.exit i23 v21,iZ))
 (fun JY iZ=>some (.ret JY,iZ)))
 (fun v25 mL=>some (.normal [(v25.getD 0 .any),(v25.getD 1 .any),(v25.getD 2 .any),(v25.getD 3 .any),(v25.getD 4 .any),(v25.getD 5 .any),(v25.getD 6 .any)],mL))
 (fun i27 v25 mL=>if i27=1 then some (.normal v25,mL) else some (.exit i27 v25,mL))
 (fun OA mL=>some (.ret OA,mL)))
 (fun v29 rl=>bd (af .add (v29.getD 6 .any) (I .i64 1)) fun t21 =>
 some (.normal [(v29.getD 0 .any),(v29.getD 1 .any),(v29.getD 2 .any),(v29.getD 3 .any),(v29.getD 4 .any),(v29.getD 5 .any),t21],rl))
 (fun i31 v29 rl=>some (.exit i31 v29,rl))
 (fun r32 rl=>some (.ret r32,rl)))
 (some (.exit 0 [(v.getD 1 .any)],s))
def f9 (aa:ak) (N:Nat) (a0:T) (s:St):Option (T×St) :=
 jn (jn (loops (TP aa N) N [a0,(Z .ay),(Z .ay),(I .i64 0),(I .i64 0),(I .i64 0),(I .i64 0)] s)
 (fun v33 Gg=>some (.normal [.any],Gg))
 (fun i35 v33 Gg=>if i35=0 then some (.normal v33,Gg) else some (.exit i35 v33,Gg))
 (fun r36 Gg=>some (.ret r36,Gg)))
 (fun v37 Sf=>some ((v37.getD 0 .any),Sf))
 (fun i39 v37 Sf=>none)
 (fun ZL Sf=>some (ZL,Sf))
def TM (aa:ak) (N:Nat) (v:List T) (s:St):Option (JO×St) :=
 bd (az (v.getD 0 .any)) fun t10 =>
 bd (af .lss (v.getD 2 .any) t10) fun t11 =>
 br t11 (jn (bd (av 8 (v.getD 0 .any) (v.getD 2 .any)) fun t17 =>
 bd (aH 8 t17 s.get) fun t18 =>
 ax (aa 35 [t18] s) fun t19 s1 =>
 bd (ah t19 0) fun t20 =>
 bd (ah t19 1) fun t21 =>
 bd (af .neq t21 (I .i64 0)) fun t23 =>
 br t23 (bd (aQ [(Z (.str [])),t21]) fun r2 =>
 some (.ret r2,s1))
 (bd (af .add (v.getD 1 .any) t20) fun t27 =>
 some (.normal [(v.getD 0 .any),t27,(v.getD 2 .any)],s1)))
 (fun v3 s4=>bd (af .add (v3.getD 2 .any) (I .i64 1)) fun t13 =>
 some (.normal [(v3.getD 0 .any),(v3.getD 1 .any),t13],s4))
 (fun i5 v3 s4=>some (.exit i5 v3,s4))
 (fun r6 s4=>some (.ret r6,s4)))
 (some (.exit 0 [(v.getD 0 .any),(v.getD 1 .any)],s))
def f8 (aa:ak) (N:Nat) (a0:T) (s:St):Option (T×St) :=
 jn (jn (loops (TM aa N) N [a0,(Z (.str [])),(I .i64 0)] s)
 (fun v7 s8=>some (.normal [.any,.any],s8))
 (fun i9 v7 s8=>if i9=0 then some (.normal v7,s8) else some (.exit i9 v7,s8))
 (fun oR s8=>some (.ret oR,s8)))
 (fun v11 bW=>bd (az (v11.getD 0 .any)) fun t29 =>
 bd (af .gtr t29 (I .i64 2000)) fun t30 =>
 br t30 (bd (aQ [(Z (.str [])),(I .i64 8)]) fun Fs =>
 some (Fs,bW))
 (bd (aQ [(v11.getD 1 .any),(I .i64 0)]) fun r16 =>
 some (r16,bW)))
 (fun i13 v11 bW=>none)
 (fun vg bW=>some (vg,bW))
end
noncomputable section
def f196 (aa:ak) (N:Nat) (a0:T) (s:St):Option (T×St) :=
 bd (af .lss a0 (I .i64 0)) fun t4 =>
 br t4 (bd (jZ .xor a0) fun t6 =>
 bd (aI .u64 t6) fun t7 =>
 bd (af .shl t7 (I .u64 1)) fun t8 =>
 bd (af .or t8 (I .u64 1)) fun t9 =>
 some (t9,s))
 (bd (aI .u64 a0) fun t11 =>
 bd (af .shl t11 (I .u64 1)) fun t12 =>
 some (t12,s))
theorem Mi (aa:ak) (N:Nat) (a0:T) (s:St):aR Tryz.prog aa N Tryz.f196 [a0] s=f196 aa N a0 s:=by kernel_rfl
theorem HS (d:Nat) (a0:T) (s:St):R (d+1) 196 [a0] s=f196 (R d) 8192 a0 s:=(au rfl Tryz.func196 (by kernel_rfl)).trans (Mi ..)
def f154 (aa:ak) (N:Nat) (a0:T) (s:St):Option (T×St) :=
 bd (af .and a0 (I .u64 1)) fun t4 =>
 bd (af .eql t4 (I .u64 1)) fun t5 =>
 br t5 (bd (af .shr a0 (I .u64 1)) fun t7 =>
 bd (aI .i64 t7) fun t8 =>
 bd (jZ .xor t8) fun t9 =>
 some (t9,s))
 (bd (af .shr a0 (I .u64 1)) fun t11 =>
 bd (aI .i64 t11) fun t12 =>
 some (t12,s))
theorem LR (aa:ak) (N:Nat) (a0:T) (s:St):aR Tryz.prog aa N Tryz.f154 [a0] s=f154 aa N a0 s:=by kernel_rfl
theorem Hv (d:Nat) (a0:T) (s:St):R (d+1) 154 [a0] s=f154 (R d) 8192 a0 s:=(au rfl Tryz.func154 (by kernel_rfl)).trans (LR ..)
def my (aa:ak) (N:Nat) (v:List T) (s:St):Option (JO×St) :=
 bd (af .lss (v.getD 3 .any) (v.getD 2 .any)) fun t9 =>
 br t9 (jn (bd (av 2 (v.getD 1 .any) (v.getD 3 .any)) fun t10 =>
 bd (aH 2 t10 s.get) fun t11 =>
 ax (aL s (bb [.int .i64 0,.int .i64 0])) fun t5 s1 =>
 ax (aw 2 t5 t11 s1) fun _ s2 =>
 bd (ae 0 t5) fun t12 =>
 bd (ab t12 s2.get) fun t13 =>
 bd (af .leq t13 (v.getD 0 .any)) fun t15 =>
 bd (gT (gd t15 false) (ae 0 t5)) fun t17 =>
 bd (gT (gd t15 false) (ab t17 s2.get)) fun t18 =>
 bd (gT (gd t15 false) (af .gtr t18 (I .i64 1099511627776))) fun t19 =>
 bd (aC t15 (B true) t19) fun t20 =>
 br t20 (some (.ret (B false),s2))
 (bd (ae 0 t5) fun t21 =>
 bd (ab t21 s2.get) fun t22 =>
 some (.normal [t22,(v.getD 1 .any),(v.getD 2 .any),(v.getD 3 .any)],s2)))
 (fun v3 s4=>bd (af .add (v3.getD 3 .any) (I .i64 1)) fun t23 =>
 some (.normal [(v3.getD 0 .any),(v3.getD 1 .any),(v3.getD 2 .any),t23],s4))
 (fun i5 v3 s4=>some (.exit i5 v3,s4))
 (fun r6 s4=>some (.ret r6,s4)))
 (some (.exit 0 [],s))
def f195 (aa:ak) (N:Nat) (a0:T) (s:St):Option (T×St) :=
 bd (az a0) fun t7 =>
 jn (jn (loops (my aa N) N [(I .i64 (-1)),a0,t7,(I .i64 0)] s)
 (fun v7 s8=>some (.normal [],s8))
 (fun i9 v7 s8=>if i9=0 then some (.normal v7,s8) else some (.exit i9 v7,s8))
 (fun oR s8=>some (.ret oR,s8)))
 (fun v11 bW=>some ((B true),bW))
 (fun i13 v11 bW=>none)
 (fun vg bW=>some (vg,bW))
theorem Mh (aa:ak) (N:Nat) (a0:T) (s:St):aR Tryz.prog aa N Tryz.f195 [a0] s=f195 aa N a0 s:=by kernel_rfl
theorem HR (d:Nat) (a0:T) (s:St):R (d+1) 195 [a0] s=f195 (R d) 8192 a0 s:=(au rfl Tryz.func195 (by kernel_rfl)).trans (Mh ..)
def mw (aa:ak) (N:Nat) (v:List T) (s:St):Option (JO×St) :=
 bd (af .lss (v.getD 5 .any) (v.getD 4 .any)) fun t24 =>
 br t24 (jn (bd (av 2 (v.getD 3 .any) (v.getD 5 .any)) fun t26 =>
 bd (aH 2 t26 s.get) fun t27 =>
 ax (aL s (bb [.int .i64 0,.int .i64 0])) fun t7 s4 =>
 ax (aw 2 t7 t27 s4) fun _ s5 =>
 bd (af .eql (v.getD 5 .any) (I .i64 0)) fun t29 =>
 br t29 (bd (ae 0 t7) fun t31 =>
 bd (ab t31 s5.get) fun t32 =>
 bd (aI .u64 t32) fun t33 =>
 ax (aa 159 [t33] s5) fun t34 s6 =>
 ax (aJ 1 1 (v.getD 1 .any) t34 s6) fun t35 s7 =>
 bd (ae 1 t7) fun t36 =>
 bd (ab t36 s7.get) fun t37 =>
 ax (aa 196 [t37] s7) fun t38 s8 =>
 ax (aa 159 [t38] s8) fun t39 s9 =>
 ax (aJ 1 1 t35 t39 s9) fun t40 bM =>
 ck ((decide (ab t36 s5.get=ab t36 s7.get)&&(decide (ab t36 s6.get=ab t36 s7.get)&&true))&&true) (some (.normal [(v.getD 0 .any),t40,(v.getD 2 .any),(v.getD 3 .any),(v.getD 4 .any),(v.getD 5 .any)],bM)))
 (bd (ae 0 t7) fun t41 =>
 bd (ab t41 s5.get) fun t42 =>
 bd (af .sub (v.getD 5 .any) (I .i64 1)) fun t45 =>
 bd (av 2 (v.getD 0 .any) t45) fun t46 =>
 bd (ae 0 t46) fun t47 =>
 bd (ab t47 s5.get) fun t48 =>
 bd (af .sub t42 t48) fun t49 =>
 bd (af .sub t49 (v.getD 2 .any)) fun t53 =>
 ax (aa 196 [t53] s5) fun t54 bO =>
 ax (aa 159 [t54] bO) fun t55 bW =>
 ax (aJ 1 1 (v.getD 1 .any) t55 bW) fun t56 dX =>
 bd (ae 1 t7) fun t57 =>
 bd (ab t57 dX.get) fun t58 =>
 bd (af .sub (v.getD 5 .any) (I .i64 1)) fun t61 =>
 bd (av 2 (v.getD 0 .any) t61) fun t62 =>
 bd (ae 1 t62) fun t63 =>
 bd (ab t63 dX.get) fun t64 =>
 bd (af .sub t58 t64) fun t65 =>
 ax (aa 196 [t65] dX) fun t66 fR =>
 ax (aa 159 [t66] fR) fun t67 gv =>
 ax (aJ 1 1 t56 t67 gv) fun t68 fV =>
 ck ((decide (ab t57 s5.get=ab t57 dX.get)&&(decide (ab t57 bO.get=ab t57 dX.get)&&(decide (ab t57 bW.get=ab t57 dX.get)&&true)))&&((decide (ab t63 s5.get=ab t63 dX.get)&&(decide (ab t63 bO.get=ab t63 dX.get)&&(decide (ab t63 bW.get=ab t63 dX.get)&&true)))&&true)) (some (.normal [(v.getD 0 .any),t68,t49,(v.getD 3 .any),(v.getD 4 .any),(v.getD 5 .any)],fV))))
 (fun jF gV=>bd (af .add (jF.getD 5 .any) (I .i64 1)) fun t70 =>
 some (.normal [(jF.getD 0 .any),(jF.getD 1 .any),(jF.getD 2 .any),(jF.getD 3 .any),(jF.getD 4 .any),t70],gV))
 (fun i19 jF gV=>some (.exit i19 jF,gV))
 (fun CF gV=>some (.ret CF,gV)))
 (some (.exit 0 [(v.getD 1 .any)],s))
def f155 (aa:ak) (N:Nat) (a0:T) (s:St):Option (T×St) :=
 ax (aa 195 [a0] s) fun t10 s1 =>
 bd (jZ .not t10) fun t11 =>
 bd (gT (gd t11 false) (some a0)) fun t13 =>
 bd (gT (gd t11 false) (az t13)) fun t14 =>
 bd (gT (gd t11 false) (af .gtr t14 (I .i64 64))) fun t15 =>
 bd (aC t11 (B true) t15) fun t16 =>
 br t16 (bd (aQ [(Z .ay),(I .i64 1)]) fun r2 =>
 some (r2,s1))
 (bd (az a0) fun t18 =>
 bd (aI .u64 t18) fun t19 =>
 ax (aa 159 [t19] s1) fun t20 s3 =>
 bd (az a0) fun t22 =>
 jn (jn (loops (mw aa N) N [a0,t20,(I .i64 0),a0,t22,(I .i64 0)] s3)
 (fun v21 iZ=>some (.normal [.any],iZ))
 (fun i23 v21 iZ=>if i23=0 then some (.normal v21,iZ) else some (.exit i23 v21,iZ))
 (fun JY iZ=>some (.ret JY,iZ)))
 (fun v25 mL=>bd (aQ [(v25.getD 0 .any),(I .i64 0)]) fun ZF =>
 some (ZF,mL))
 (fun i27 v25 mL=>none)
 (fun OA mL=>some (OA,mL)))
theorem LS (aa:ak) (N:Nat) (a0:T) (s:St):aR Tryz.prog aa N Tryz.f155 [a0] s=f155 aa N a0 s:=by kernel_rfl
theorem zC (d:Nat) (a0:T) (s:St):R (d+1) 155 [a0] s=f155 (R d) 8192 a0 s:=(au rfl Tryz.func155 (by kernel_rfl)).trans (LS ..)
def jg (aa:ak) (N:Nat) (v:List T) (s:St):Option (JO×St) :=
 bd (af .lss (v.getD 5 .any) (v.getD 4 .any)) fun t18 =>
 br t18 (jn (bd (bg (v.getD 1 .any)) fun t21 =>
 bd (ae 2 t21) fun t22 =>
 bd (ab t22 s.get) fun t23 =>
 br t23 (some (.exit 0 [(v.getD 0 .any),(v.getD 1 .any),(v.getD 2 .any)],s))
 (bd (af .eql (v.getD 5 .any) (I .i64 0)) fun t25 =>
 br t25 (ax (aa 153 [(v.getD 1 .any)] s) fun t27 s3 =>
 bd (aI .i64 t27) fun t28 =>
 ax (aa 153 [(v.getD 1 .any)] s3) fun t32 s4 =>
 ax (aa 154 [t32] s4) fun t33 s5 =>
 bd (aU (aG [.int .i64 0,.int .i64 0] [(0,1,t28),(1,1,t33)])) fun t34 =>
 ax (aL s5 (aS 1 (aG [.int .i64 0,.int .i64 0] [(0,2,t34)]))) fun t35 s6 =>
 ax (aJ 2 16 (v.getD 2 .any) t35 s6) fun t36 s7 =>
 some (.normal [(v.getD 0 .any),(v.getD 1 .any),t36,(v.getD 3 .any),(v.getD 4 .any),(v.getD 5 .any)],s7))
 (ax (aa 153 [(v.getD 1 .any)] s) fun t39 s8 =>
 ax (aa 154 [t39] s8) fun t40 s9 =>
 bd (af .add (v.getD 3 .any) t40) fun t41 =>
 bd (af .sub (v.getD 5 .any) (I .i64 1)) fun t44 =>
 bd (av 2 (v.getD 2 .any) t44) fun t45 =>
 bd (aH 2 t45 s9.get) fun t46 =>
 ax (aL s9 (bb [.int .i64 0,.int .i64 0])) fun t9 bM =>
 ax (aw 2 t9 t46 bM) fun _ bO =>
 bd (ae 0 t9) fun t48 =>
 bd (ab t48 bO.get) fun t49 =>
 bd (af .add t49 t41) fun t51 =>
 bd (ae 1 t9) fun t52 =>
 bd (ab t52 bO.get) fun t53 =>
 ax (aa 153 [(v.getD 1 .any)] bO) fun t55 bW =>
 ax (aa 154 [t55] bW) fun t56 dX =>
 bd (af .add t53 t56) fun t57 =>
 bd (aU (aG [.int .i64 0,.int .i64 0] [(0,1,t51),(1,1,t57)])) fun t58 =>
 ax (aL dX (aS 1 (aG [.int .i64 0,.int .i64 0] [(0,2,t58)]))) fun t59 fR =>
 ax (aJ 2 16 (v.getD 2 .any) t59 fR) fun t60 gv =>
 ck ((decide (ab t48 (cA 9 bW.get (Cx 12 dX.size (aS 1 (aG [.int .i64 0,.int .i64 0] [(0,2,t58)])) []))=ab t48 bO.get)&&(decide (ab t48 (cA 10 dX.get (Cx 12 dX.size (aS 1 (aG [.int .i64 0,.int .i64 0] [(0,2,t58)])) []))=ab t48 bO.get)&&true))&&((decide (ab t52 (cA 9 bW.get (Cx 12 dX.size (aS 1 (aG [.int .i64 0,.int .i64 0] [(0,2,t58)])) []))=ab t52 bO.get)&&(decide (ab t52 (cA 10 dX.get (Cx 12 dX.size (aS 1 (aG [.int .i64 0,.int .i64 0] [(0,2,t58)])) []))=ab t52 bO.get)&&true))&&true)) (some (.normal [(v.getD 0 .any),(v.getD 1 .any),t60,t41,(v.getD 4 .any),(v.getD 5 .any)],gv)))))
 (fun gW iI=>bd (af .add (gW.getD 5 .any) (I .i64 1)) fun t61 =>
 some (.normal [(gW.getD 0 .any),(gW.getD 1 .any),(gW.getD 2 .any),(gW.getD 3 .any),(gW.getD 4 .any),t61],iI))
 (fun i18 gW iI=>some (.exit i18 gW,iI))
 (fun ym iI=>some (.ret ym,iI)))
 (some (.exit 0 [(v.getD 0 .any),(v.getD 1 .any),(v.getD 2 .any)],s))
def f119 (aa:ak) (N:Nat) (a0:T) (s:St):Option (T×St) :=
 bd (aU (aG [.ay,.int .i64 0,.bool false] [(0,1,a0)])) fun t13 =>
 ax (aL s (cf t13)) fun t14 s1 =>
 ax (aa 152 [t14,(I .i64 64)] s1) fun t16 s2 =>
 jn (jn (loops (jg aa N) N [a0,t14,(Z .ay),(I .i64 0),t16,(I .i64 0)] s2)
 (fun v20 kU=>some (.normal [.any,.any,.any],kU))
 (fun i22 v20 kU=>if i22=0 then some (.normal v20,kU) else some (.exit i22 v20,kU))
 (fun Sc kU=>some (.ret Sc,kU)))
 (fun v24 kV=>ax (aa 155 [(v24.getD 2 .any)] kV) fun t64 yT =>
 bd (ah t64 0) fun t65 =>
 bd (ah t64 1) fun t66 =>
 bd (bg (v24.getD 1 .any)) fun t68 =>
 bd (ae 2 t68) fun t69 =>
 bd (ab t69 yT.get) fun t70 =>
 bd (gT (gd t70 false) (some t66)) fun t72 =>
 bd (gT (gd t70 false) (af .neq t72 (I .i64 0))) fun t73 =>
 bd (aC t70 (B true) t73) fun t74 =>
 bd (gT (gd t74 false) (some t65)) fun t76 =>
 bd (gT (gd t74 false) (some (v24.getD 0 .any))) fun t77 =>
 ax (gS (gd t74 false) yT (aa 122 [t76,t77] yT)) fun t78 nH =>
 bd (gT (gd t74 false) (jZ .not t78)) fun t79 =>
 bd (aC t74 (B true) t79) fun t80 =>
 br t80 (bd (aQ [(Z .ay),(I .i64 2)]) fun ZG =>
 some (ZG,nH))
 (bd (aQ [(v24.getD 2 .any),(I .i64 0)]) fun JZ =>
 some (JZ,nH)))
 (fun i26 v24 kV=>none)
 (fun Vu kV=>some (Vu,kV))
theorem Lv (aa:ak) (N:Nat) (a0:T) (s:St):aR Tryz.prog aa N Tryz.f119 [a0] s=f119 aa N a0 s:=by kernel_rfl
theorem Hi (d:Nat) (a0:T) (s:St):R (d+1) 119 [a0] s=f119 (R d) 8192 a0 s:=(au rfl Tryz.func119 (by kernel_rfl)).trans (Lv ..)
def f153 (aa:ak) (N:Nat) (a0:T) (s:St):Option (T×St) :=
 bd (bg a0) fun t8 =>
 bd (ae 0 t8) fun t9 =>
 bd (ab t9 s.get) fun t10 =>
 bd (bg a0) fun t12 =>
 bd (ae 1 t12) fun t13 =>
 bd (ab t13 s.get) fun t14 =>
 ax (aa 118 [t10,t14] s) fun t15 s1 =>
 bd (ah t15 0) fun t16 =>
 bd (ah t15 1) fun t17 =>
 bd (ah t15 2) fun t18 =>
 bd (af .neq t18 (I .i64 0)) fun t20 =>
 jn (br t20 (bd (bg a0) fun t22 =>
 bd (ae 2 t22) fun t23 =>
 ax (aw 1 t23 (B true) s1) fun _ s2 =>
 some (.normal [a0,t16,t17],s2))
 (some (.normal [a0,t16,t17],s1)))
 (fun v3 s4=>bd (bg (v3.getD 0 .any)) fun t26 =>
 bd (ae 1 t26) fun t27 =>
 ax (aw 1 t27 (v3.getD 2 .any) s4) fun _ s7 =>
 some ((v3.getD 1 .any),s7))
 (fun i5 v3 s4=>none)
 (fun r6 s4=>some (r6,s4))
theorem LQ (aa:ak) (N:Nat) (a0:T) (s:St):aR Tryz.prog aa N Tryz.f153 [a0] s=f153 aa N a0 s:=by kernel_rfl
theorem Hu (d:Nat) (a0:T) (s:St):R (d+1) 153 [a0] s=f153 (R d) 8192 a0 s:=(au rfl Tryz.func153 (by kernel_rfl)).trans (LQ ..)
def f152 (aa:ak) (N:Nat) (a0:T) (a1:T) (s:St):Option (T×St) :=
 ax (aa 153 [a0] s) fun t7 s1 =>
 bd (aI .u64 a1) fun t10 =>
 bd (af .gtr t7 t10) fun t11 =>
 br t11 (bd (bg a0) fun t13 =>
 bd (ae 2 t13) fun t14 =>
 ax (aw 1 t14 (B true) s1) fun _ s2 =>
 some ((I .i64 0),s2))
 (bd (aI .i64 t7) fun t16 =>
 some (t16,s1))
theorem LP (aa:ak) (N:Nat) (a0:T) (a1:T) (s:St):aR Tryz.prog aa N Tryz.f152 [a0,a1] s=f152 aa N a0 a1 s:=by kernel_rfl
theorem Ht (d:Nat) (a0:T) (a1:T) (s:St):R (d+1) 152 [a0,a1] s=f152 (R d) 8192 a0 a1 s:=(au rfl Tryz.func152 (by kernel_rfl)).trans (LP ..)
def f199 (aa:ak) (N:Nat) (a0:T) (a1:T) (a2:T) (a3:T) (s:St):Option (T×St) :=
 bd (af .geq a0 (I .i64 1)) fun t10 =>
 bd (gT (gd t10 true) (some a0)) fun t12 =>
 bd (gT (gd t10 true) (af .leq t12 (I .i64 1073741824))) fun t13 =>
 bd (aC t10 t13 (B false)) fun t14 =>
 bd (gT (gd t14 true) (some a1)) fun t16 =>
 bd (gT (gd t14 true) (af .geq t16 (I .i64 0))) fun t17 =>
 bd (aC t14 t17 (B false)) fun t18 =>
 bd (gT (gd t18 true) (some a1)) fun t20 =>
 bd (gT (gd t18 true) (af .lss t20 (I .i64 4))) fun t21 =>
 bd (aC t18 t21 (B false)) fun t22 =>
 bd (gT (gd t22 true) (some a2)) fun t24 =>
 bd (gT (gd t22 true) (af .geq t24 (I .i64 0))) fun t25 =>
 bd (aC t22 t25 (B false)) fun t26 =>
 bd (gT (gd t26 true) (some a2)) fun t28 =>
 bd (gT (gd t26 true) (some a3)) fun t29 =>
 bd (gT (gd t26 true) (af .lss t28 t29)) fun t30 =>
 bd (aC t26 t30 (B false)) fun t31 =>
 bd (gT (gd t31 true) (some a3)) fun t33 =>
 bd (gT (gd t31 true) (af .leq t33 (I .i64 1099511627776))) fun t34 =>
 bd (aC t31 t34 (B false)) fun t35 =>
 some (t35,s)
theorem Mj (aa:ak) (N:Nat) (a0:T) (a1:T) (a2:T) (a3:T) (s:St):aR Tryz.prog aa N Tryz.f199 [a0,a1,a2,a3] s=f199 aa N a0 a1 a2 a3 s:=by kernel_rfl
theorem HT (d:Nat) (a0:T) (a1:T) (a2:T) (a3:T) (s:St):R (d+1) 199 [a0,a1,a2,a3] s=f199 (R d) 8192 a0 a1 a2 a3 s:=(au rfl Tryz.func199 (by kernel_rfl)).trans (Mj ..)
def f158 (aa:ak) (N:Nat) (a0:T) (s:St):Option (T×St) :=
 ax (aL s (cf a0)) fun t1 s1 =>
 bd (ae 0 t1) fun t5 =>
 bd (ab t5 s1.get) fun t6 =>
 bd (ae 1 t1) fun t7 =>
 bd (ab t7 s1.get) fun t8 =>
 bd (ae 2 t1) fun t9 =>
 bd (ab t9 s1.get) fun t10 =>
 bd (ae 3 t1) fun t11 =>
 bd (ab t11 s1.get) fun t12 =>
 ax (aa 199 [t6,t8,t10,t12] s1) fun t13 s2 =>
 bd (jZ .not t13) fun t14 =>
 br t14 (some ((B false),s2))
 (bd (ae 1 t1) fun t15 =>
 bd (ab t15 s2.get) fun t16 =>
 bd (af .eql t16 (I .i64 0)) fun t17 =>
 br t17 (bd (ae 4 t1) fun t18 =>
 bd (ab t18 s2.get) fun t19 =>
 bd (az t19) fun t20 =>
 bd (ae 5 t1) fun t21 =>
 bd (ab t21 s2.get) fun t22 =>
 bd (az t22) fun t23 =>
 bd (af .eql t23 (I .i64 0)) fun t24 =>
 bd (gT (gd t24 true) (some t20)) fun t26 =>
 bd (gT (gd t24 true) (af .geq t26 (I .i64 1))) fun t27 =>
 bd (aC t24 t27 (B false)) fun t28 =>
 bd (gT (gd t28 true) (some t20)) fun t30 =>
 bd (gT (gd t28 true) (af .leq t30 (I .i64 64))) fun t31 =>
 bd (aC t28 t31 (B false)) fun t32 =>
 bd (gT (gd t32 true) (ae 4 t1)) fun t34 =>
 bd (gT (gd t32 true) (ab t34 s2.get)) fun t35 =>
 ax (gS (gd t32 true) s2 (aa 195 [t35] s2)) fun t36 s3 =>
 bd (aC t32 t36 (B false)) fun t37 =>
 bd (gT (gd t37 true) (ae 4 t1)) fun t39 =>
 bd (gT (gd t37 true) (ab t39 s3.get)) fun t40 =>
 bd (gT (gd t37 true) (av 2 t40 (I .i64 0))) fun t41 =>
 bd (gT (gd t37 true) (ae 0 t41)) fun t42 =>
 bd (gT (gd t37 true) (ab t42 s3.get)) fun t43 =>
 bd (gT (gd t37 true) (ae 2 t1)) fun t44 =>
 bd (gT (gd t37 true) (ab t44 s3.get)) fun t45 =>
 bd (gT (gd t37 true) (af .geq t43 t45)) fun t46 =>
 bd (aC t37 t46 (B false)) fun t47 =>
 bd (gT (gd t47 true) (ae 4 t1)) fun t49 =>
 bd (gT (gd t47 true) (ab t49 s3.get)) fun t50 =>
 bd (gT (gd t47 true) (some t20)) fun t51 =>
 bd (gT (gd t47 true) (af .sub t51 (I .i64 1))) fun t52 =>
 bd (gT (gd t47 true) (av 2 t50 t52)) fun t53 =>
 bd (gT (gd t47 true) (ae 0 t53)) fun t54 =>
 bd (gT (gd t47 true) (ab t54 s3.get)) fun t55 =>
 bd (gT (gd t47 true) (ae 3 t1)) fun t56 =>
 bd (gT (gd t47 true) (ab t56 s3.get)) fun t57 =>
 bd (gT (gd t47 true) (af .lss t55 t57)) fun t58 =>
 bd (aC t47 t58 (B false)) fun t59 =>
 some (t59,s3))
 (bd (ae 5 t1) fun t60 =>
 bd (ab t60 s2.get) fun t61 =>
 bd (az t61) fun t62 =>
 bd (ae 4 t1) fun t63 =>
 bd (ab t63 s2.get) fun t64 =>
 bd (az t64) fun t65 =>
 bd (af .eql t65 (I .i64 0)) fun t66 =>
 bd (gT (gd t66 true) (some t62)) fun t68 =>
 bd (gT (gd t66 true) (af .geq t68 (I .i64 1))) fun t69 =>
 bd (aC t66 t69 (B false)) fun t70 =>
 bd (gT (gd t70 true) (some t62)) fun t72 =>
 bd (gT (gd t70 true) (af .leq t72 (I .i64 64))) fun t73 =>
 bd (aC t70 t73 (B false)) fun t74 =>
 bd (gT (gd t74 true) (ae 5 t1)) fun t76 =>
 bd (gT (gd t74 true) (ab t76 s2.get)) fun t77 =>
 bd (gT (gd t74 true) (ae 1 t1)) fun t78 =>
 bd (gT (gd t74 true) (ab t78 s2.get)) fun t79 =>
 ax (gS (gd t74 true) s2 (aa 197 [t77,t79] s2)) fun t80 s4 =>
 bd (aC t74 t80 (B false)) fun t81 =>
 bd (gT (gd t81 true) (ae 5 t1)) fun t83 =>
 bd (gT (gd t81 true) (ab t83 s4.get)) fun t84 =>
 bd (gT (gd t81 true) (av 7 t84 (I .i64 0))) fun t85 =>
 bd (gT (gd t81 true) (ae 0 t85)) fun t86 =>
 bd (gT (gd t81 true) (ab t86 s4.get)) fun t87 =>
 bd (gT (gd t81 true) (ae 2 t1)) fun t88 =>
 bd (gT (gd t81 true) (ab t88 s4.get)) fun t89 =>
 bd (gT (gd t81 true) (ae 1 t1)) fun t90 =>
 bd (gT (gd t81 true) (ab t90 s4.get)) fun t91 =>
 ax (gS (gd t81 true) s4 (aa 200 [t89,t91] s4)) fun t92 s5 =>
 bd (gT (gd t81 true) (af .geq t87 t92)) fun t93 =>
 bd (aC t81 t93 (B false)) fun t94 =>
 bd (gT (gd t94 true) (ae 5 t1)) fun t96 =>
 bd (gT (gd t94 true) (ab t96 s5.get)) fun t97 =>
 bd (gT (gd t94 true) (some t62)) fun t98 =>
 bd (gT (gd t94 true) (af .sub t98 (I .i64 1))) fun t99 =>
 bd (gT (gd t94 true) (av 7 t97 t99)) fun t100 =>
 bd (gT (gd t94 true) (ae 0 t100)) fun t101 =>
 bd (gT (gd t94 true) (ab t101 s5.get)) fun t102 =>
 bd (gT (gd t94 true) (ae 3 t1)) fun t103 =>
 bd (gT (gd t94 true) (ab t103 s5.get)) fun t104 =>
 bd (gT (gd t94 true) (af .lss t102 t104)) fun t105 =>
 bd (aC t94 t105 (B false)) fun t106 =>
 ck ((wq (gd t81 true) (decide (ab t83 s5.get=ab t83 s4.get))&&true)&&((wq (gd t81 true) (decide (ab t86 s5.get=ab t86 s4.get))&&true)&&true)) (some (t106,s5))))
theorem LU (aa:ak) (N:Nat) (a0:T) (s:St):aR Tryz.prog aa N Tryz.f158 [a0] s=f158 aa N a0 s:=by kernel_rfl
theorem Hw (d:Nat) (a0:T) (s:St):R (d+1) 158 [a0] s=f158 (R d) 8192 a0 s:=(au rfl Tryz.func158 (by kernel_rfl)).trans (LU ..)
def f160 (aa:ak) (N:Nat) (a0:T) (s:St):Option (T×St) :=
 bd (aI .u8 a0) fun t4 =>
 bd (af .shr a0 (I .u64 8)) fun t6 =>
 bd (aI .u8 t6) fun t7 =>
 bd (af .shr a0 (I .u64 16)) fun t9 =>
 bd (aI .u8 t9) fun t10 =>
 bd (af .shr a0 (I .u64 24)) fun t12 =>
 bd (aI .u8 t12) fun t13 =>
 ax (aL s (aS 4 (aG [.int .u8 0,.int .u8 0,.int .u8 0,.int .u8 0] [(0,1,t4),(1,1,t7),(2,1,t10),(3,1,t13)]))) fun t14 s1 =>
 some (t14,s1)
theorem LW (aa:ak) (N:Nat) (a0:T) (s:St):aR Tryz.prog aa N Tryz.f160 [a0] s=f160 aa N a0 s:=by kernel_rfl
theorem Hy (d:Nat) (a0:T) (s:St):R (d+1) 160 [a0] s=f160 (R d) 8192 a0 s:=(au rfl Tryz.func160 (by kernel_rfl)).trans (LW ..)
def nY (aa:ak) (N:Nat) (v:List T) (s:St):Option (JO×St) :=
 bd (af .lss (v.getD 4 .any) (v.getD 3 .any)) fun t31 =>
 br t31 (jn (bd (av 1 (v.getD 2 .any) (v.getD 4 .any)) fun t32 =>
 bd (ab t32 s.get) fun t33 =>
 ax (aa 159 [t33] s) fun t36 s6 =>
 ax (aJ 1 1 (v.getD 1 .any) t36 s6) fun t37 s7 =>
 some (.normal [(v.getD 0 .any),t37,(v.getD 2 .any),(v.getD 3 .any),(v.getD 4 .any)],s7))
 (fun v8 s9=>bd (af .add (v8.getD 4 .any) (I .i64 1)) fun t38 =>
 some (.normal [(v8.getD 0 .any),(v8.getD 1 .any),(v8.getD 2 .any),(v8.getD 3 .any),t38],s9))
 (fun i10 v8 s9=>some (.exit i10 v8,s9))
 (fun Vr s9=>some (.ret Vr,s9)))
 (some (.exit 0 [(v.getD 0 .any),(v.getD 1 .any)],s))
def f121 (aa:ak) (N:Nat) (a0:T) (s:St):Option (T×St) :=
 ax (aL s (cf a0)) fun t1 s1 =>
 bd (aH 6 t1 s1.get) fun t9 =>
 ax (aa 158 [t9] s1) fun t10 s2 =>
 bd (jZ .not t10) fun t11 =>
 br t11 (bd (aQ [(Z .ay),(I .i64 1)]) fun r3 =>
 some (r3,s2))
 (ax (aL s2 (aS 2 (aG [.int .u8 0,.int .u8 0] [(0,1,(I .u8 84)),(1,1,(I .u8 75))]))) fun t12 s4 =>
 bd (ae 0 t1) fun t13 =>
 bd (ab t13 s4.get) fun t14 =>
 bd (aI .u64 t14) fun t15 =>
 bd (ae 1 t1) fun t16 =>
 bd (ab t16 s4.get) fun t17 =>
 bd (aI .u64 t17) fun t18 =>
 bd (ae 2 t1) fun t19 =>
 bd (ab t19 s4.get) fun t20 =>
 bd (aI .u64 t20) fun t21 =>
 bd (ae 3 t1) fun t22 =>
 bd (ab t22 s4.get) fun t23 =>
 bd (ae 2 t1) fun t24 =>
 bd (ab t24 s4.get) fun t25 =>
 bd (af .sub t23 t25) fun t26 =>
 bd (aI .u64 t26) fun t27 =>
 ax (aL s4 (aS 4 (aG [.int .u64 0,.int .u64 0,.int .u64 0,.int .u64 0] [(0,1,t15),(1,1,t18),(2,1,t21),(3,1,t27)]))) fun t28 s5 =>
 bd (az t28) fun t29 =>
 jn (jn (loops (nY aa N) N [t1,t12,t28,t29,(I .i64 0)] s5)
 (fun v12 dX=>some (.normal [.any,.any],dX))
 (fun i14 v12 dX=>if i14=0 then some (.normal v12,dX) else some (.exit i14 v12,dX))
 (fun Fs dX=>some (.ret Fs,dX)))
 (fun gW iI=>bd (ae 4 (gW.getD 0 .any)) fun t40 =>
 bd (ab t40 iI.get) fun t41 =>
 ax (aa 155 [t41] iI) fun t42 mg =>
 bd (ah t42 0) fun t43 =>
 bd (ah t42 1) fun t44 =>
 bd (ae 1 (gW.getD 0 .any)) fun t45 =>
 bd (ab t45 mg.get) fun t46 =>
 bd (af .gtr t46 (I .i64 0)) fun t47 =>
 jn (br t47 (bd (ae 5 (gW.getD 0 .any)) fun t49 =>
 bd (ab t49 mg.get) fun t50 =>
 bd (ae 1 (gW.getD 0 .any)) fun t51 =>
 bd (ab t51 mg.get) fun t52 =>
 ax (aa 157 [t50,t52] mg) fun t53 kU =>
 bd (ah t53 0) fun t54 =>
 bd (ah t53 1) fun t55 =>
 some (.normal [(gW.getD 1 .any),t54,t55],kU))
 (some (.normal [(gW.getD 1 .any),t43,t44],mg)))
 (fun v22 na=>bd (af .neq (v22.getD 2 .any) (I .i64 0)) fun t57 =>
 br t57 (bd (aQ [(Z .ay),(v22.getD 2 .any)]) fun Vt =>
 some (Vt,na))
 (ax (aJ 1 1 (v22.getD 0 .any) (v22.getD 1 .any) na) fun t61 sC =>
 ax (aa 161 [t61] sC) fun t64 yT =>
 ax (aa 160 [t64] yT) fun t65 nH =>
 ax (aJ 1 1 t61 t65 nH) fun t66 rl =>
 bd (az t66) fun t68 =>
 bd (af .gtr t68 (I .i64 4000)) fun t69 =>
 br t69 (bd (aQ [(Z .ay),(I .i64 8)]) fun JZ =>
 some (JZ,rl))
 (bd (aQ [t66,(I .i64 0)]) fun r32 =>
 some (r32,rl))))
 (fun i24 v22 na=>none)
 (fun Oz na=>some (Oz,na)))
 (fun i18 gW iI=>none)
 (fun ym iI=>some (ym,iI)))
theorem Lw (aa:ak) (N:Nat) (a0:T) (s:St):aR Tryz.prog aa N Tryz.f121 [a0] s=f121 aa N a0 s:=by kernel_rfl
theorem Hj (d:Nat) (a0:T) (s:St):R (d+1) 121 [a0] s=f121 (R d) 8192 a0 s:=(au rfl Tryz.func121 (by kernel_rfl)).trans (Lw ..)
def tA (aa:ak) (N:Nat) (v:List T) (s:St):Option (JO×St) :=
 bd (af .lss (v.getD 5 .any) (I .i64 4)) fun t34 =>
 br t34 (jn (bd (aB 1 (v.getD 0 .any) none (some (v.getD 2 .any)) none) fun t39 =>
 ax (aa 118 [t39,(v.getD 4 .any)] s) fun t41 s6 =>
 bd (ah t41 0) fun t42 =>
 bd (ah t41 1) fun t43 =>
 bd (ah t41 2) fun t44 =>
 bd (af .neq t44 (I .i64 0)) fun t46 =>
 bd (gT (gd t46 false) (some t42)) fun t48 =>
 bd (gT (gd t46 false) (af .gtr t48 (I .u64 1099511627776))) fun t49 =>
 bd (aC t46 (B true) t49) fun t50 =>
 br t50 (bd (aU (aG [.int .i64 0,.int .i64 0,.int .i64 0,.int .i64 0,.ay,.ay] [])) fun t51 =>
 ax (aw 6 (v.getD 1 .any) t51 s6) fun _ s7 =>
 bd (rC (aH 6 (v.getD 1 .any) s7.get) (rT (I .i64 2) (some []))) fun l8=>bd (aQ l8) fun r9 =>
 some (.ret r9,s7))
 (bd (bz 4 1 (v.getD 3 .any) (v.getD 5 .any)) fun t55 =>
 ax (aw 1 t55 t42 s6) fun _ bM =>
 some (.normal [(v.getD 0 .any),(v.getD 1 .any),(v.getD 2 .any),(v.getD 3 .any),t43,(v.getD 5 .any)],bM)))
 (fun v11 bW=>bd (af .add (v11.getD 5 .any) (I .i64 1)) fun t56 =>
 some (.normal [(v11.getD 0 .any),(v11.getD 1 .any),(v11.getD 2 .any),(v11.getD 3 .any),(v11.getD 4 .any),t56],bW))
 (fun i13 v11 bW=>some (.exit i13 v11,bW))
 (fun vg bW=>some (.ret vg,bW)))
 (some (.exit 0 [(v.getD 0 .any),(v.getD 1 .any),(v.getD 2 .any),(v.getD 3 .any),(v.getD 4 .any)],s))
def f81 (aa:ak) (N:Nat) (a0:T) (s:St):Option (T×St) :=
 ax (aL s (bb [.int .i64 0,.int .i64 0,.int .i64 0,.int .i64 0,.ay,.ay])) fun t2 s1 =>
 bd (az a0) fun t16 =>
 bd (af .sub t16 (I .i64 4)) fun t17 =>
 bd (af .lss t17 (I .i64 2)) fun t19 =>
 bd (gT (gd t19 false) (some a0)) fun t21 =>
 bd (gT (gd t19 false) (av 1 t21 (I .i64 0))) fun t22 =>
 bd (gT (gd t19 false) (ab t22 s1.get)) fun t23 =>
 bd (gT (gd t19 false) (af .neq t23 (I .u8 84))) fun t24 =>
 bd (aC t19 (B true) t24) fun t25 =>
 bd (gT (gd t25 false) (some a0)) fun t27 =>
 bd (gT (gd t25 false) (av 1 t27 (I .i64 1))) fun t28 =>
 bd (gT (gd t25 false) (ab t28 s1.get)) fun t29 =>
 bd (gT (gd t25 false) (af .neq t29 (I .u8 75))) fun t30 =>
 bd (aC t25 (B true) t30) fun t31 =>
 br t31 (bd (aU (aG [.int .i64 0,.int .i64 0,.int .i64 0,.int .i64 0,.ay,.ay] [])) fun t32 =>
 ax (aw 6 t2 t32 s1) fun _ s2 =>
 bd (rC (aH 6 t2 s2.get) (rT (I .i64 2) (some []))) fun l3=>bd (aQ l3) fun r4 =>
 some (r4,s2))
 (ax (aL s1 (bb [.int .u64 0,.int .u64 0,.int .u64 0,.int .u64 0])) fun t5 s5 =>
 jn (jn (loops (tA aa N) N [a0,t2,t17,t5,(I .i64 2),(I .i64 0)] s5)
 (fun o7 fV=>some (.normal [.any,.any,.any,.any,.any],fV))
 (fun i17 o7 fV=>if i17=0 then some (.normal o7,fV) else some (.exit i17 o7,fV))
 (fun Fv fV=>some (.ret Fv,fV)))
 (fun rD mg=>bd (bz 4 1 (rD.getD 3 .any) (I .i64 0)) fun t57 =>
 bd (ab t57 mg.get) fun t58 =>
 bd (aI .i64 t58) fun t59 =>
 bd (bz 4 1 (rD.getD 3 .any) (I .i64 1)) fun t60 =>
 bd (ab t60 mg.get) fun t61 =>
 bd (aI .i64 t61) fun t62 =>
 bd (bz 4 1 (rD.getD 3 .any) (I .i64 2)) fun t63 =>
 bd (ab t63 mg.get) fun t64 =>
 bd (aI .i64 t64) fun t65 =>
 bd (bz 4 1 (rD.getD 3 .any) (I .i64 2)) fun t66 =>
 bd (ab t66 mg.get) fun t67 =>
 bd (bz 4 1 (rD.getD 3 .any) (I .i64 3)) fun t68 =>
 bd (ab t68 mg.get) fun t69 =>
 bd (af .add t67 t69) fun t70 =>
 bd (aI .i64 t70) fun t71 =>
 bd (aU (aG [.int .i64 0,.int .i64 0,.int .i64 0,.int .i64 0,.ay,.ay] [(0,1,t59),(1,1,t62),(2,1,t65),(3,1,t71)])) fun t72 =>
 ax (aL mg (bb [.int .i64 0,.int .i64 0,.int .i64 0,.int .i64 0,.ay,.ay])) fun t11 na =>
 ax (aw 6 t11 t72 na) fun _ yS =>
 bd (ae 1 t11) fun t73 =>
 bd (ab t73 yS.get) fun t74 =>
 bd (af .eql t74 (I .i64 0)) fun t75 =>
 jn (br t75 (bd (aB 1 (rD.getD 0 .any) (some (rD.getD 4 .any)) (some (rD.getD 2 .any)) none) fun t80 =>
 ax (aa 119 [t80] yS) fun t81 kV =>
 bd (ah t81 0) fun t82 =>
 bd (ah t81 1) fun t83 =>
 bd (ae 4 t11) fun t84 =>
 ax (aw 1 t84 t82 kV) fun _ mL =>
 some (.normal [(rD.getD 0 .any),(rD.getD 1 .any),t11,t83],mL))
 (bd (aB 1 (rD.getD 0 .any) (some (rD.getD 4 .any)) (some (rD.getD 2 .any)) none) fun t89 =>
 bd (ae 1 t11) fun t90 =>
 bd (ab t90 yS.get) fun t91 =>
 ax (aa 120 [t89,t91] yS) fun t92 sC =>
 bd (ah t92 0) fun t93 =>
 bd (ah t92 1) fun t94 =>
 bd (ae 5 t11) fun t95 =>
 ax (aw 1 t95 t93 sC) fun _ yT =>
 some (.normal [(rD.getD 0 .any),(rD.getD 1 .any),t11,t94],yT)))
 (fun v29 rl=>bd (aH 6 (v29.getD 2 .any) rl.get) fun t97 =>
 ax (aa 121 [t97] rl) fun t98 sD =>
 bd (ah t98 0) fun t99 =>
 bd (ah t98 1) fun t100 =>
 bd (af .neq (v29.getD 3 .any) (I .i64 0)) fun t102 =>
 bd (gT (gd t102 false) (some t100)) fun t104 =>
 bd (gT (gd t102 false) (af .neq t104 (I .i64 0))) fun t105 =>
 bd (aC t102 (B true) t105) fun t106 =>
 bd (gT (gd t106 false) (some t99)) fun t108 =>
 bd (gT (gd t106 false) (some (v29.getD 0 .any))) fun t109 =>
 ax (gS (gd t106 false) sD (aa 122 [t108,t109] sD)) fun t110 Gg =>
 bd (gT (gd t106 false) (jZ .not t110)) fun t111 =>
 bd (aC t106 (B true) t111) fun t112 =>
 br t112 (bd (aU (aG [.int .i64 0,.int .i64 0,.int .i64 0,.int .i64 0,.ay,.ay] [])) fun t113 =>
 ax (aw 6 (v29.getD 1 .any) t113 Gg) fun _ DV =>
 bd (rC (aH 6 (v29.getD 1 .any) DV.get) (rT (I .i64 2) (some []))) fun l36=>bd (aQ l36) fun Vv =>
 some (Vv,DV))
 (bd (aH 6 (v29.getD 2 .any) Gg.get) fun t114 =>
 ax (aw 6 (v29.getD 1 .any) t114 Gg) fun _ Sf =>
 bd (rC (aH 6 (v29.getD 1 .any) Sf.get) (rT (I .i64 0) (some []))) fun l39=>bd (aQ l39) fun ZL =>
 some (ZL,Sf)))
 (fun i31 v29 rl=>none)
 (fun r32 rl=>some (r32,rl)))
 (fun i21 rD mg=>none)
 (fun Vs mg=>some (Vs,mg)))
theorem QU (aa:ak) (N:Nat) (a0:T) (s:St):aR Tryz.prog aa N Tryz.f81 [a0] s=f81 aa N a0 s:=by kernel_rfl
theorem M4 (d:Nat) (a0:T) (s:St):R (d+1) 81 [a0] s=f81 (R d) 8192 a0 s:=(au rfl Tryz.func81 (by kernel_rfl)).trans (QU ..)
def f77 (aa:ak) (N:Nat) (a0:T) (s:St):Option (T×St) :=
 ax (aL s (bb [.int .i64 0,.int .i64 0,.int .i64 0,.int .i64 0,.int .u32 0])) fun t2 s1 =>
 ax (aa 81 [a0] s1) fun t9 s2 =>
 bd (ah t9 0) fun t10 =>
 bd (ah t9 1) fun t11 =>
 ax (aL s2 (bb [.int .i64 0,.int .i64 0,.int .i64 0,.int .i64 0,.ay,.ay])) fun t4 s3 =>
 ax (aw 6 t4 t10 s3) fun _ s4 =>
 bd (af .neq t11 (I .i64 0)) fun t13 =>
 br t13 (bd (aU (aG [.int .i64 0,.int .i64 0,.int .i64 0,.int .i64 0,.int .u32 0] [])) fun t14 =>
 ax (aw 5 t2 t14 s4) fun _ s5 =>
 bd (rC (aH 5 t2 s5.get) (rT t11 (some []))) fun l6=>bd (aQ l6) fun r7 =>
 some (r7,s5))
 (bd (az a0) fun t18 =>
 bd (af .sub t18 (I .i64 4)) fun t19 =>
 bd (aB 1 a0 (some t19) none none) fun t20 =>
 bd (ae 0 t4) fun t21 =>
 bd (ab t21 s4.get) fun t22 =>
 bd (ae 1 t4) fun t23 =>
 bd (ab t23 s4.get) fun t24 =>
 bd (ae 2 t4) fun t25 =>
 bd (ab t25 s4.get) fun t26 =>
 bd (ae 3 t4) fun t27 =>
 bd (ab t27 s4.get) fun t28 =>
 bd (av 1 t20 (I .i64 0)) fun t30 =>
 bd (ab t30 s4.get) fun t31 =>
 bd (aI .u32 t31) fun t32 =>
 bd (av 1 t20 (I .i64 1)) fun t34 =>
 bd (ab t34 s4.get) fun t35 =>
 bd (aI .u32 t35) fun t36 =>
 bd (af .shl t36 (I .u64 8)) fun t37 =>
 bd (af .or t32 t37) fun t38 =>
 bd (av 1 t20 (I .i64 2)) fun t40 =>
 bd (ab t40 s4.get) fun t41 =>
 bd (aI .u32 t41) fun t42 =>
 bd (af .shl t42 (I .u64 16)) fun t43 =>
 bd (af .or t38 t43) fun t44 =>
 bd (av 1 t20 (I .i64 3)) fun t46 =>
 bd (ab t46 s4.get) fun t47 =>
 bd (aI .u32 t47) fun t48 =>
 bd (af .shl t48 (I .u64 24)) fun t49 =>
 bd (af .or t44 t49) fun t50 =>
 bd (aU (aG [.int .i64 0,.int .i64 0,.int .i64 0,.int .i64 0,.int .u32 0] [(0,1,t22),(1,1,t24),(2,1,t26),(3,1,t28),(4,1,t50)])) fun t51 =>
 ax (aw 5 t2 t51 s4) fun _ s8 =>
 bd (rC (aH 5 t2 s8.get) (rT (I .i64 0) (some []))) fun l9=>bd (aQ l9) fun oR =>
 some (oR,s8))
theorem QQ (aa:ak) (N:Nat) (a0:T) (s:St):aR Tryz.prog aa N Tryz.f77 [a0] s=f77 aa N a0 s:=by kernel_rfl
theorem MY (d:Nat) (a0:T) (s:St):R (d+1) 77 [a0] s=f77 (R d) 8192 a0 s:=(au rfl Tryz.func77 (by kernel_rfl)).trans (QQ ..)
end
end Go.Proofs.YtbohejffelipoaaGreatDoor
