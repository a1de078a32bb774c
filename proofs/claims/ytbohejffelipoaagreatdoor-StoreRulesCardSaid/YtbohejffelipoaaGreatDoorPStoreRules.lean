/-
  StoreRules returns true whatever the input. The tied card: the tables of the library lie as its text lays them.
-/
import Derived.Test.YtbohejffelipoaaGreatDoorFnsD
import Derived.Test.YtbohejffelipoaaGreatDoorAbsE
import Derived.Test.YtbohejffelipoaaGreatDoorCards
import Derived.Test.YtbohejffelipoaaGreatDoorTie
import Derived.WalkKit
import Derived.ProofKit
import Derived.OpenShut
import Derived.Lay
import Derived.SevenTiedAt
namespace Go.Proofs.YtbohejffelipoaaGreatDoor.storeRules
open Go Go.ChangeShapes Go.WideShapes Go.ChangeAt Go.RowKit Go.Abs Go.Abs.F
set_option linter.unusedVariables false

theorem knobs : ownKnob Tryz.prog.godebug = none := by kernel_rfl
theorem laid : laidOutB Tryz.prog = true := by kernel_rfl

set_option maxRecDepth 100000 in
theorem lifted (os : Os) (started : os.Started) (H : Type) (enc : TypeId × Value → H) :
    ReturnsInHanded {} Tryz.checked os 6 .any (fun w args => (Rows.storeRulesSpec.pre enc Tryz.prog Tryz.f6 [] false w args ∧ laidMetH Tryz.prog Rows.storeRulesRow.laid w) ∧ sizedMet enc Tryz.prog Tryz.f6 (OpenSpec.ofChange Rows.storeRulesSpec) false w args)
      (Rows.storeRulesSpec.post enc Tryz.prog Tryz.f6 false true false false) := by
  refine returnsInHanded_of_change_and (C := Tryz.checked) (X := fun w _ => laidMetH Tryz.prog Rows.storeRulesRow.laid w) (fun _ _ _ hh h => h.of_heap hh) knobs started (by kernel_rfl) Tryz.func6
    (ChangeSpec.witness_shaped (enc := enc) (C := Tryz.checked) (os := os) (X := fun w _ => laidMetH Tryz.prog Rows.storeRulesRow.laid w) false (World.laidAll Tryz.prog os Rows.storeRulesRow.laid) #[.slice none 0 0, .int .i64 0] 8 (World.laidAll_os _ _ _)
      (World.shaped_of_ZipB (by kernel_rfl) (by kernel_rfl)) (by kernel_rfl) (by kernel_rfl) (by kernel_rfl)
      (by rw [MakeChecks.laidMetH_plain _ _ _ (by kernel_rfl)]; exact laidMet_laidAll _ (by kernel_rfl) (by kernel_rfl))) ?_
  intro W base args ds gs before hval0 hW _ _ hL _
  have hval : ∀ (j : Nat) t v, Tryz.f6.params[j]? = some t → args[j]? = some v → Value.okWide Tryz.prog W .any base t v := hval0
  have hW' := hW
  obtain ⟨p, q, hA0, hV, rfl, hfz, hnd⟩ := hW
  have hA : DataW.TrodAll enc Tryz.prog W 0 (fun _ => true) true Tryz.f6.params.toList args.toList ds p := hA0
  have hAk := hA
  rw [Tryz.params6] at hA hval
  obtain ⟨v0, vs0, d0, ds0, p0, q0, hargs, rfl, rfl, h0, r0⟩ := trodAll_cons hA
  obtain ⟨v1, vs1, d1, ds1, p1, q1, rfl, rfl, rfl, h1, r1⟩ := trodAll_cons r0
  obtain ⟨rfl, rfl, rfl⟩ := trodAll_nil r1
  obtain rfl : args = #[v0, v1] := by cases args; simp_all
  obtain ⟨rfl, rfl⟩ := trodVars_none hV
  have hC : Calls Tryz.prog 6 #[v0, v1] W fun e u => e = .returned (.bool true) ∧ Kept W u := by
    have k0 := hval 0 23 v0 rfl rfl
    have k1 := hval 1 3 v1 rfl rfl
    obtain ⟨n1, rfl, rfl, rfl, w1⟩ := open_int Tryz.underlying3 k1 h1
    have hi1 := (Inp.nil W).flat (x := .int .i64 n1) fun _ => rfl
    obtain ⟨rows0, hr0, a0, ha0, ln0, hi0⟩ := Inp.flats2 (ks := [.int .i64]) (n := 3) hi1 Tryz.underlying23 (by kernel_rfl) (by kernel_rfl) k0 h0
    obtain ⟨x0, is0, rfl, rd0, ow0, _⟩ := slInts (s := (St.empty.push (argBlk rows0.flatten))) ha0 hr0 (by exact St.get_push_same _ _)
    have lt0 : ∀ c, own x0 = some c → c < (St.empty.push (argBlk rows0.flatten)).size := fun c hc => by rw [ow0 c hc]; simp
    have wf : (St.empty.push (argBlk rows0.flatten)).wf := (St.wf_push St.wf_empty _)
    obtain ⟨τ, h⟩ := srules_run 10 wf rd0 lt0 n1
    exact calls_inp (runQ_sound prim_sound 8192 _) hi0 h
  clear hA0 hval0
  have hlt : ∀ x ∈ p0 ++ (p1 ++ []), x.block < W.heap.size := fun x hx => hW'.lt x (by simpa using hx)
  refine hC.mono fun e W' ⟨he, hg⟩ => ?_
  subst he
  exact ⟨_, rfl, post_kept (pv := []) hW' hg rfl (fun _ _ _ => (trodAll_cons_mk (shut_bool Tryz.underlying4 _) trodAll_mk0)) (fun sp hsp => trodAll_stays laid hg hAk (by kernel_rfl) hlt (fun x hx => hsp x (by simpa using hx))) (fun _ _ => rfl) (ok_one (by kernel_rfl) rfl (okWide_bool_mk Tryz.underlying4 _))⟩

theorem over : Rows.storeRulesRow.holds Tryz.pinned (OpenSpec.ofChange Rows.storeRulesSpec) :=
  OpenClaim.holds_of_wide 6 Tryz.f6 rfl rfl rfl rfl rfl rfl rfl ⟨rfl, rfl, rfl, rfl, rfl⟩ rfl rfl rfl rfl rfl (by kernel_rfl) Tryz.func6 (by kernel_rfl)
    (of_decide_eq_true (by kernel_rfl)) (by unfold Func.isWrapper; first | (rw [if_pos (by decide +kernel)]; kernel_rfl) | (rw [if_neg (by decide +kernel)]; exact ⟨rfl, rfl⟩))
    (fun os started H enc _ => lifted os started H enc)

theorem proved : Rows.StoreRulesCardSaid :=
  Claim7.holds_tied_plain_at .later [] [.data, .data, .data, .data, .sentinel, .sentinel, .pinned] true (true, "8905f1f5100afb40c298ba074b21aacf81d97ff26168e12612f28a9452c4baca") true over (fun _ h => by cases h) (by kernel_rfl) (fun _ h => by cases h) storeRules_row_tie rfl ⟨rfl, rfl⟩ (by kernel_rfl) rfl
    (fun f fn hf hfn => by
      obtain rfl : f = 6 := Option.some.inj ((show Tryz.prog.funcNamed "twinkeep/twinkeeplaw12.StoreRules" = some 6 by kernel_rfl).symm.trans hf) |>.symm
      obtain rfl : fn = Tryz.f6 := (Option.some.inj (Tryz.func6.symm.trans hfn)).symm
      exact ⟨by kernel_rfl, fun j t ht => by
        rw [Tryz.params6] at ht
        have hm : t ∈ [23, 3] := by simpa using Array.mem_of_getElem? ht
        have hall : ([23, 3].all fun u => !Tryz.prog.wantsStandIn u) = true := by kernel_rfl
        exact (show Tryz.prog.wantsStandIn t = false by simpa using List.all_eq_true.1 hall t hm)⟩)
    (by kernel_rfl)
#print axioms proved
end Go.Proofs.YtbohejffelipoaaGreatDoor.storeRules

