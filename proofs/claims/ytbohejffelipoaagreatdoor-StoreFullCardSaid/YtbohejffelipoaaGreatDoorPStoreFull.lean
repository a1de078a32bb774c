/-
  StoreFull returns true whatever the input. The tied card: the tables of the library lie as its text lays them.
-/
import Derived.Test.YtbohejffelipoaaGreatDoorFnsE
import Derived.Test.YtbohejffelipoaaGreatDoorAbsE
import Derived.Test.YtbohejffelipoaaGreatDoorCards
import Derived.Test.YtbohejffelipoaaGreatDoorTie
import Derived.WalkKit
import Derived.ProofKit
import Derived.OpenShut
import Derived.Lay
import Derived.SevenTiedAt
namespace Go.Proofs.YtbohejffelipoaaGreatDoor.storeFull
open Go Go.ChangeShapes Go.WideShapes Go.ChangeAt Go.RowKit Go.Abs Go.Abs.F
set_option linter.unusedVariables false
theorem knobs:ownKnob Tryz.prog.godebug=none:=by kernel_rfl
theorem laid:laidOutB Tryz.prog=true:=by kernel_rfl
set_option maxRecDepth 100000 in
theorem lifted (os:Os) (started:os.Started) (H:Type) (enc:TypeId×Value->H) :
 ReturnsInHanded {} Tryz.checked os 5 .any (fun w args=>(Rows.storeFullSpec.pre enc Tryz.prog Tryz.f5 [] false w args/\laidMetH Tryz.prog Rows.storeFullRow.laid w)/\sizedMet enc Tryz.prog Tryz.f5 (OpenSpec.ofChange Rows.storeFullSpec) false w args)
  (Rows.storeFullSpec.post enc Tryz.prog Tryz.f5 false true false false):=by
 refine returnsInHanded_of_change_and (C:=Tryz.checked) (X:=fun w _=>laidMetH Tryz.prog Rows.storeFullRow.laid w) (fun _ _ _ hh h=>h.of_heap hh) knobs started (by kernel_rfl) Tryz.func5
  (ChangeSpec.witness_shaped (enc:=enc) (C:=Tryz.checked) (os:=os) (X:=fun w _=>laidMetH Tryz.prog Rows.storeFullRow.laid w) false (World.laidAll Tryz.prog os Rows.storeFullRow.laid) #[.int .i64 0] 8 (World.laidAll_os _ _ _)
   (World.shaped_of_ZipB (by kernel_rfl) (by kernel_rfl)) (by kernel_rfl) (by kernel_rfl) (by kernel_rfl)
   (by rw [MakeChecks.laidMetH_plain _ _ _ (by kernel_rfl)];exact laidMet_laidAll _ (by kernel_rfl) (by kernel_rfl))) ?_
 intro W base args ds gs before NT hW _ _ hL _
 have hval:∀ (j:Nat) t v,Tryz.f5.params[j]? = some t->args[j]? = some v->Value.okWide Tryz.prog W .any base t v:=NT
 have Yu:=hW
 obtain ⟨p,q,Ym,hV,rfl,hfz,hnd⟩:=hW
 have hA:DataW.TrodAll enc Tryz.prog W 0 (fun _=>true) true Tryz.f5.params.toList args.toList ds p:=Ym
 have Z6:=hA
 rw [Tryz.params5] at hA hval
 obtain ⟨v0,vs0,d0,ds0,p0,q0,hargs,rfl,rfl,h0,r0⟩:=trodAll_cons hA
 obtain ⟨rfl,rfl,rfl⟩:=trodAll_nil r0
 obtain rfl:args = #[v0]:=by cases args;simp_all
 obtain ⟨rfl,rfl⟩:=trodVars_none hV
 have hC:Calls Tryz.prog 5 #[v0] W fun e u=>e = .returned (.bool true)/\Kept W u:=by
  have k0:=hval 0 3 v0 rfl rfl
  obtain ⟨n0,rfl,rfl,rfl,w0⟩:=open_int Tryz.underlying3 k0 h0
  have A9:=(xJ.nil W).flat (x := .int .i64 n0) fun _=>rfl
  have wf:St.empty.wf:=St.oA
  obtain ⟨τ,h⟩:=Ex 10 wf n0
  exact Dr (fX BE 8192 _) A9 h
 clear Ym NT
 have hlt:∀ x∈p0++[],x.block<W.heap.size:=fun x hx=>Yu.lt x (by simpa using hx)
 refine hC.mono fun e W' ⟨he,hg⟩ => ?_
 subst he
 exact ⟨_,rfl,Em (pv:=[]) Yu hg rfl (fun _ _ _=>(trodAll_cons_mk (shut_bool Tryz.underlying4 _) trodAll_mk0)) (fun sp hsp=>uD laid hg Z6 (by kernel_rfl) hlt (fun x hx=>hsp x (by simpa using hx))) (fun _ _=>rfl) (ok_one (by kernel_rfl) rfl (okWide_bool_mk Tryz.underlying4 _))⟩
theorem over:Rows.storeFullRow.holds Tryz.pinned (OpenSpec.ofChange Rows.storeFullSpec) :=
 OpenClaim.holds_of_wide 5 Tryz.f5 rfl rfl rfl rfl rfl rfl rfl ⟨rfl,rfl,rfl,rfl,rfl⟩ rfl rfl rfl rfl rfl (by kernel_rfl) Tryz.func5 (by kernel_rfl)
  (of_decide_eq_true (by kernel_rfl)) (by unfold Func.isWrapper;first | (rw [if_pos (by decide +kernel)];kernel_rfl) | (rw [if_neg (by decide +kernel)];exact ⟨rfl,rfl⟩))
  (fun os started H enc _=>lifted os started H enc)
theorem proved:Rows.StoreFullCardSaid :=
 Claim7.holds_tied_plain_at .later [] [.data,.data,.data,.data,.sentinel,.sentinel,.pinned] true (true, "8905f1f5100afb40c298ba074b21aacf81d97ff26168e12612f28a9452c4baca") true over (fun _ h=>by cases h) (by kernel_rfl) (fun _ h=>by cases h) storeFull_row_tie rfl ⟨rfl,rfl⟩ (by kernel_rfl) rfl
  (fun f fn hf hfn=>by
   obtain rfl:f=5:=Option.some.inj ((show Tryz.prog.funcNamed "twinkeep/twinkeeplaw12.StoreFull"=some 5 by kernel_rfl).symm.trans hf) |>.symm
   obtain rfl:fn=Tryz.f5:=(Option.some.inj (Tryz.func5.symm.trans hfn)).symm
   exact ⟨by kernel_rfl,fun j t ht=>by
    rw [Tryz.params5] at ht
    have hm:t∈[3]:=by simpa using Array.mem_of_getElem? ht
    have hall:([3].all fun u => !Tryz.prog.wantsStandIn u)=true:=by kernel_rfl
    exact (show Tryz.prog.wantsStandIn t=false by simpa using List.all_eq_true.1 hall t hm)⟩)
  (by kernel_rfl)
#print axioms proved
end Go.Proofs.YtbohejffelipoaaGreatDoor.storeFull
