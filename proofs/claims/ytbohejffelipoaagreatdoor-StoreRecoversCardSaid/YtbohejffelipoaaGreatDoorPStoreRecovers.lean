/-
  StoreRecovers returns true whatever the input. The tied card: the tables of the library lie as its text lays them.
-/
import Derived.Test.YtbohejffelipoaaGreatDoorFnsE
import Derived.Test.YtbohejffelipoaaGreatDoorAbsE
import Derived.Test.YtbohejffelipoaaGreatDoorCards
import Derived.Test.YtbohejffelipoaaGreatDoorTie
import Derived.WalkKit
import Derived.ProofKit
import Derived.OpenShut
import Derived.Lay
import Derived.SevenTiedAt
namespace Go.Proofs.YtbohejffelipoaaGreatDoor.storeRecovers
open Go Go.ChangeShapes Go.WideShapes Go.ChangeAt Go.RowKit Go.Abs Go.Abs.F
set_option linter.unusedVariables false
abbrev U6:List NK:=[.flat (.int .i64),.flat (.int .i64),.flat (.int .i64),.flat (.int .i64),.sl [.int .i64],.sl [.int .i64],.flat (.int .i64),.flat (.int .i64),.flat (.int .i64),.flat (.int .i64),.flat (.int .i64),.flat (.int .i64),.flat (.int .u32),.flat .str]
theorem NO {s:St} {y:S} (h:xe s (.sl [.int .i64]) y):∃ is:List Int,Rd 1 s y is.length (is.map (S.int .i64))/\∀ c,own y=some c->c<s.size:=by
 obtain ⟨rows,h1,_,h2,h3⟩:=h
 obtain ⟨is,e1,e2⟩:=qq h1
 rw [e1,lJ,List.length_map] at h2
 exact ⟨is,h2,h3⟩
theorem JI {s:St}:∀ {rows:List (List S)},(∀ r∈rows,aT (xe s) U6 r)->∃ ops:List Op,aT (Gx s) ops rows
 | [],_=>⟨[],.nil⟩
 | r::l,h=>by
   obtain ⟨ops,ho⟩:=JI (rows:=l) fun x hx=>h x (by simp [hx])
   have hr:=h r (by simp)
   obtain ⟨a,ea,ha⟩:=bn hr 0 _ rfl
   obtain ⟨b,eb,hb⟩:=bn hr 1 _ rfl
   obtain ⟨c,ec,hc⟩:=bn hr 4 _ rfl
   obtain ⟨n0,rfl,_⟩:=KS.int (k := .i64) ha
   obtain ⟨n1,rfl,_⟩:=KS.int (k := .i64) hb
   obtain ⟨is,h1,h2⟩:=NO hc
   exact ⟨⟨n0,n1,is⟩::ops,.cons ⟨(aA hr).symm,ea,eb,c,ec,h1,h2⟩ ho⟩
theorem knobs:ownKnob Tryz.prog.godebug=none:=by kernel_rfl
theorem laid:laidOutB Tryz.prog=true:=by kernel_rfl
set_option maxRecDepth 100000 in
theorem lifted (os:Os) (started:os.Started) (H:Type) (enc:TypeId×Value->H) :
 ReturnsInHanded {} Tryz.checked os 4 .any (fun w args=>(Rows.storeRecoversSpec.pre enc Tryz.prog Tryz.f4 [] false w args/\laidMetH Tryz.prog Rows.storeRecoversRow.laid w)/\sizedMet enc Tryz.prog Tryz.f4 (OpenSpec.ofChange Rows.storeRecoversSpec) false w args)
  (Rows.storeRecoversSpec.post enc Tryz.prog Tryz.f4 false true false false):=by
 refine returnsInHanded_of_change_and (C:=Tryz.checked) (X:=fun w _=>laidMetH Tryz.prog Rows.storeRecoversRow.laid w) (fun _ _ _ hh h=>h.of_heap hh) knobs started (by kernel_rfl) Tryz.func4
  (ChangeSpec.witness_shaped (enc:=enc) (C:=Tryz.checked) (os:=os) (X:=fun w _=>laidMetH Tryz.prog Rows.storeRecoversRow.laid w) false (World.laidAll Tryz.prog os Rows.storeRecoversRow.laid) #[.slice none 0 0,.slice none 0 0] 8 (World.laidAll_os _ _ _)
   (World.shaped_of_ZipB (by kernel_rfl) (by kernel_rfl)) (by kernel_rfl) (by kernel_rfl) (by kernel_rfl)
   (by rw [MakeChecks.laidMetH_plain _ _ _ (by kernel_rfl)];exact laidMet_laidAll _ (by kernel_rfl) (by kernel_rfl))) ?_
 intro W base args ds gs before Pq hW _ _ hL _
 have hval:∀ (j:Nat) t v,Tryz.f4.params[j]? = some t->args[j]? = some v->Value.okWide Tryz.prog W .any base t v:=Pq
 have hW':=hW
 obtain ⟨p,q,hA0,hV,rfl,hfz,hnd⟩:=hW
 have hA:DataW.TrodAll enc Tryz.prog W 0 (fun _=>true) true Tryz.f4.params.toList args.toList ds p:=hA0
 have hAk:=hA
 rw [Tryz.params4] at hA hval
 obtain ⟨v0,vs0,d0,ds0,p0,q0,hargs,rfl,rfl,h0,r0⟩:=trodAll_cons hA
 obtain ⟨v1,vs1,d1,ds1,p1,q1,rfl,rfl,rfl,h1,r1⟩:=trodAll_cons r0
 obtain ⟨rfl,rfl,rfl⟩:=trodAll_nil r1
 obtain rfl:args = #[v0,v1]:=by cases args;simp_all
 obtain ⟨rfl,rfl⟩:=trodVars_none hV
 have hC:Calls Tryz.prog 4 #[v0,v1] W fun e u=>e = .returned (.bool true)/\Kept W u:=by
  have k0:=hval 0 44 v0 rfl rfl
  have k1:=hval 1 23 v1 rfl rfl
  obtain ⟨Pz,Pk,a1,XF,ln1,hi1⟩:=jY.Q7 (ks:=[.int .i64]) (n:=3) (jY.nil W) Tryz.underlying23 (by kernel_rfl) (by kernel_rfl) k1 h1
  obtain ⟨x1,is1,rfl,rd1,ow1,_⟩:=Si (s:=(St.empty.push (dI Pz.flatten))) XF Pk (by exact St.aq _ _)
  have lt1:∀ c,own x1=some c->c<(St.empty.push (dI Pz.flatten)).size:=fun c hc=>by rw [ow1 c hc];simp
  obtain ⟨σ,x,rows,Bh,hr,hl,rd,ox,zz,kk⟩:=jY.nest (ks:=U6) (n:=3) hi1 Tryz.underlying44 Tryz.underlying49 (by kernel_rfl) (by kernel_rfl) (by decide) k0 h0
  obtain ⟨ops,ho⟩:=JI hr
  obtain ⟨τ,h⟩:=Kk 10 Bh.wf rd ho ox (rd1.keep fun c hc=>kk c (lt1 c hc)) (fun c hc=>by have:=lt1 c hc;omega)
  exact Et (gq CE 8192 _) Bh h
 clear hA0 Pq
 have hlt:∀ x∈p0++(p1++[]),x.block<W.heap.size:=fun x hx=>hW'.lt x (by simpa using hx)
 refine hC.mono fun e W' ⟨he,hg⟩ => ?_
 subst he
 exact ⟨_,rfl,Fo (pv:=[]) hW' hg rfl (fun _ _ _=>(trodAll_cons_mk (shut_bool Tryz.underlying4 _) trodAll_mk0)) (fun sp hsp=>vj laid hg hAk (by kernel_rfl) hlt (fun x hx=>hsp x (by simpa using hx))) (fun _ _=>rfl) (ok_one (by kernel_rfl) rfl (okWide_bool_mk Tryz.underlying4 _))⟩
theorem over:Rows.storeRecoversRow.holds Tryz.pinned (OpenSpec.ofChange Rows.storeRecoversSpec) :=
 OpenClaim.holds_of_wide 4 Tryz.f4 rfl rfl rfl rfl rfl rfl rfl ⟨rfl,rfl,rfl,rfl,rfl⟩ rfl rfl rfl rfl rfl (by kernel_rfl) Tryz.func4 (by kernel_rfl)
  (of_decide_eq_true (by kernel_rfl)) (by unfold Func.isWrapper;first | (rw [if_pos (by decide +kernel)];kernel_rfl) | (rw [if_neg (by decide +kernel)];exact ⟨rfl,rfl⟩))
  (fun os started H enc _=>lifted os started H enc)
theorem proved:Rows.StoreRecoversCardSaid :=
 Claim7.holds_tied_plain_at .later [] [.data,.data,.data,.data,.sentinel,.sentinel,.pinned] true (true, "8905f1f5100afb40c298ba074b21aacf81d97ff26168e12612f28a9452c4baca") true over (fun _ h=>by cases h) (by kernel_rfl) (fun _ h=>by cases h) storeRecovers_row_tie rfl ⟨rfl,rfl⟩ (by kernel_rfl) rfl
  (fun f fn hf hfn=>by
   obtain rfl:f=4:=Option.some.inj ((show Tryz.prog.funcNamed "twinkeep/twinkeeplaw12.StoreRecovers"=some 4 by kernel_rfl).symm.trans hf) |>.symm
   obtain rfl:fn=Tryz.f4:=(Option.some.inj (Tryz.func4.symm.trans hfn)).symm
   exact ⟨by kernel_rfl,fun j t ht=>by
    rw [Tryz.params4] at ht
    have hm:t∈[44,23]:=by simpa using Array.mem_of_getElem? ht
    have hall:([44,23].all fun u => !Tryz.prog.wantsStandIn u)=true:=by kernel_rfl
    exact (show Tryz.prog.wantsStandIn t=false by simpa using List.all_eq_true.1 hall t hm)⟩)
  (by kernel_rfl)
#print axioms proved
end Go.Proofs.YtbohejffelipoaaGreatDoor.storeRecovers
