/-
  StoreRaw returns true whatever the input. The tied card: the tables of the library lie as its text lays them.
-/
import Derived.Test.YtbohejffelipoaaGreatDoorFnsG
import Derived.Test.YtbohejffelipoaaGreatDoorAbsE
import Derived.Test.YtbohejffelipoaaGreatDoorCards
import Derived.Test.YtbohejffelipoaaGreatDoorTie
import Derived.WalkKit
import Derived.ProofKit
import Derived.OpenShut
import Derived.Lay
import Derived.SevenTiedAt
set_option linter.unusedVariables false
set_option linter.unusedSimpArgs false
set_option maxHeartbeats 4000000
namespace Go.Proofs.YtbohejffelipoaaGreatDoor.storeRaw
open Go Go.ChangeShapes Go.WideShapes Go.ChangeAt Go.RowKit Go.Abs Go.Abs.F
theorem knobs:ownKnob Tryz.prog.godebug=none:=by kernel_rfl
theorem laid:laidOutB Tryz.prog=true:=by kernel_rfl
set_option maxRecDepth 100000 in
theorem lifted(os:Os)(started:os.Started)(H:Type)(enc:TypeId×Value->H) :
 ReturnsInHanded {} Tryz.checked os 3 .any (λw args=>(Rows.storeRawSpec.pre enc Tryz.prog Tryz.f3 [] false w args/\laidMetH Tryz.prog Rows.storeRawRow.laid w)/\sizedMet enc Tryz.prog Tryz.f3 (OpenSpec.ofChange Rows.storeRawSpec) false w args)
  (Rows.storeRawSpec.post enc Tryz.prog Tryz.f3 false true false false):=by
 refine returnsInHanded_of_change_and (C:=Tryz.checked) (X:=λw _=>laidMetH Tryz.prog Rows.storeRawRow.laid w) (λ_ _ _ hh h=>h.of_heap hh) knobs started (by kernel_rfl) Tryz.func3
  (ChangeSpec.witness_shaped (enc:=enc) (C:=Tryz.checked) (os:=os) (X:=λw _=>laidMetH Tryz.prog Rows.storeRawRow.laid w) false (World.laidAll Tryz.prog os Rows.storeRawRow.laid) #[.slice none 0 0,.slice none 0 0,.int .i64 0,.int .u8 0,.slice none 0 0] 8 (World.laidAll_os _ _ _)
   (World.shaped_of_ZipB (by kernel_rfl) (by kernel_rfl)) (by kernel_rfl) (by kernel_rfl) (by kernel_rfl)
   (by rw[MakeChecks.laidMetH_plain _ _ _ (by kernel_rfl)];exact laidMet_laidAll _ (by kernel_rfl) (by kernel_rfl))) ?_
 intro W base args ds gs before i hW _ _ hL _;have f:∀(j:Nat) t v,Tryz.f3.params[j]? = some t->args[j]? = some v->Value.okWide Tryz.prog W .any base t v:=i
 have l:=hW;obtain⟨p,q,k,hV,rfl,Sv,Sw⟩:=hW;have r:DataW.TrodAll enc Tryz.prog W 0 (λ_=>true) true Tryz.f3.params.toList args.toList ds p:=k;have y:=r;rw[Tryz.params3]at r f;obtain⟨v0,SD,d0,Sn,p0,q0,E,rfl,rfl,h0,r0⟩:=trodAll_cons r;obtain⟨v1,SE,d1,Sp,p1,q1,rfl,rfl,rfl,h1,r1⟩:=trodAll_cons r0;obtain⟨v2,SF,d2,Sr,p2,q2,rfl,rfl,rfl,h2,r2⟩:=trodAll_cons r1;obtain⟨v3,SG,d3,Ss,p3,q3,rfl,rfl,rfl,h3,r3⟩:=trodAll_cons r2;obtain⟨v4,SH,d4,Su,p4,q4,rfl,rfl,rfl,h4,r4⟩:=trodAll_cons r3;obtain⟨rfl,rfl,rfl⟩:=trodAll_nil r4;obtain rfl:args = #[v0,v1,v2,v3,v4]:=by cases args;simp_all
 obtain⟨rfl,rfl⟩:=trodVars_none hV
 have hC:Calls Tryz.prog 3 #[v0,v1,v2,v3,v4] W λe u=>e = .returned (.bool true)/\Kept W u:=by
  have k0:=f 0 22 v0 rfl rfl;have k1:=f 1 23 v1 rfl rfl;have k2:=f 2 3 v2 rfl rfl;have k3:=f 3 5 v3 rfl rfl;have k4:=f 4 22 v4 rfl rfl;have z:laidMet Tryz.prog Rows.storeRawRow.laid W:=by have:=hL;rwa [MakeChecks.laidMetH_plain _ _ _ (by kernel_rfl)]at this
  have o:Lib.TabIs Tryz.prog W "internal/strconv.uint64pow10" .u64 Lib.pow10Tab:=wU (g:=2) (t:=295) (e:=123) (n:=20) (j:=2) (by kernel_rfl) (by kernel_rfl) Tryz.underlying295 Tryz.underlying123 (by kernel_rfl) (by kernel_rfl) z (by kernel_rfl)
  have L:=yo.eb (P:=Tryz.prog) (g:=2) (by kernel_rfl) o;obtain⟨d,Q,a4,D,SC,K⟩:=yo.C4 (ks:=[.int .u8]) (n:=3) L Tryz.underlying22 (by kernel_rfl) (by kernel_rfl) k4 h4;obtain⟨n3,rfl,rfl,rfl,w3⟩:=open_int Tryz.underlying5 k3 h3;obtain⟨c3,rfl⟩:=Ey w3;have J:=K.flat (x := .int .u8 (c3.toNat:Int)) λ_=>rfl
  obtain⟨n2,rfl,rfl,rfl,w2⟩:=open_int Tryz.underlying3 k2 h2;have I:=J.flat (x := .int .i64 n2) λ_=>rfl
  obtain⟨b,O,SJ,B,SB,G⟩:=yo.C4 (ks:=[.int .i64]) (n:=3) I Tryz.underlying23 (by kernel_rfl) (by kernel_rfl) k1 h1;obtain⟨a,N,a0,A,SA,F⟩:=yo.C4 (ks:=[.int .u8]) (n:=3) G Tryz.underlying22 (by kernel_rfl) (by kernel_rfl) k0 h0;obtain⟨x4,Sz,rfl,Sm,Sj⟩:=Fj (s:=(((wT.push (c7 d.flatten)).push (c7 b.flatten)).push (c7 a.flatten))) D Q (by rw[St.j5 (by simp[Cr,mc])];rw[St.j5 (by simp[Cr,mc])];exact St.ec);have V:∀c,own x4=some c->c<(((wT.push (c7 d.flatten)).push (c7 b.flatten)).push (c7 a.flatten)).size:=λc m=>by rw[Sj c m];simp[Cr,mc]
  obtain⟨x1,Sy,rfl,Sl,Z,_⟩:=L0 (s:=(((wT.push (c7 d.flatten)).push (c7 b.flatten)).push (c7 a.flatten))) B O (by rw[St.j5 (by simp[Cr,mc])];exact St.ec);have U:∀c,own x1=some c->c<(((wT.push (c7 d.flatten)).push (c7 b.flatten)).push (c7 a.flatten)).size:=λc m=>by rw[Z c m];simp[Cr,mc]
  obtain⟨x0,Sx,rfl,Sk,Y⟩:=Fj (s:=(((wT.push (c7 d.flatten)).push (c7 b.flatten)).push (c7 a.flatten))) A N (by exact St.ec);have T:∀c,own x0=some c->c<(((wT.push (c7 d.flatten)).push (c7 b.flatten)).push (c7 a.flatten)).size:=λc m=>by rw[Y c m];simp[Cr,mc]
  have SI:(((wT.push (c7 d.flatten)).push (c7 b.flatten)).push (c7 a.flatten)).wf:=(St.bo (St.bo (St.bo (St.bo St.rl _) _) _) _);obtain⟨SK,h⟩:=OI 10 SI (Qc _ _ _) Sk T Sl U n2 c3 Sm V;exact Gm (jr DA 8192 _) F h
 clear k i;have M:∀x∈p0++(p1++(p2++(p3++(p4++[])))),x.block<W.heap.size:=λx S=>l.lt x (by simpa using S)
 refine hC.mono λe W' ⟨he,hg⟩ => ?_
 subst he;exact⟨_,rfl,Hd (pv:=[]) l hg rfl (λ_ _ _=>(trodAll_cons_mk (shut_bool Tryz.underlying4 _) trodAll_mk0)) (λsp R=>wX laid hg y (by kernel_rfl) M (λx S=>R x (by simpa using S))) (λ_ _=>rfl) (ok_one (by kernel_rfl) rfl (okWide_bool_mk Tryz.underlying4 _))⟩
theorem over:Rows.storeRawRow.holds Tryz.pinned (OpenSpec.ofChange Rows.storeRawSpec):=
 OpenClaim.holds_of_wide 3 Tryz.f3 rfl rfl rfl rfl rfl rfl rfl ⟨rfl,rfl,rfl,rfl,rfl⟩ rfl rfl rfl rfl rfl (by kernel_rfl) Tryz.func3 (by kernel_rfl)
  (fL (by kernel_rfl)) (by unfold Func.isWrapper;first | (rw[af (by decide +kernel)];kernel_rfl) | (rw[ae (by decide +kernel)];exact⟨rfl,rfl⟩))
  (λos started H enc _=>lifted os started H enc)
theorem proved:Rows.StoreRawCardSaid:=
 Claim7.holds_tied_plain_at .later [] [.data,.data,.data,.data,.sentinel,.sentinel,.pinned] true (true, "8905f1f5100afb40c298ba074b21aacf81d97ff26168e12612f28a9452c4baca") true over (λ_ h=>by cases h) (by kernel_rfl) (λ_ h=>by cases h) storeRaw_row_tie rfl ⟨rfl,rfl⟩ (by kernel_rfl) rfl
  (λf fn g d=>by
   obtain rfl:f=3:=dQ ((show Tryz.prog.funcNamed "twinkeep/twinkeeplaw12.StoreRaw"=some 3 by kernel_rfl).symm.trans g) |>.symm
   obtain rfl:fn=Tryz.f3:=(dQ (Tryz.func3.symm.trans d)).symm
   exact⟨by kernel_rfl,λj t e=>by
    rw[Tryz.params3]at e;have k:t∈[22,23,3,5,22]:=by simpa using Array.mem_of_getElem? e
    have c:([22,23,3,5,22].all λu => !Tryz.prog.wantsStandIn u)=true:=by kernel_rfl
    exact(show Tryz.prog.wantsStandIn t=false by simpa using List.all_eq_true.1 c t k)⟩)
  (by kernel_rfl)
#print axioms proved
end Go.Proofs.YtbohejffelipoaaGreatDoor.storeRaw
