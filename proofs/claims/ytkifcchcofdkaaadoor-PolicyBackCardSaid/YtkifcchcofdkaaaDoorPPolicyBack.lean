/-
  PolicyBack returns true whatever the input. The tied card: the tables of the library lie as its text lays them.
-/
import Derived.Test.YtkifcchcofdkaaaDoorFnsA
import Derived.Test.YtkifcchcofdkaaaDoorFnsB
import Derived.Test.YtkifcchcofdkaaaDoorAbsE
import Derived.Test.YtkifcchcofdkaaaDoorCards
import Derived.Test.YtkifcchcofdkaaaDoorTie
import Derived.WalkKit
import Derived.ProofKit
import Derived.OpenShut
import Derived.Lay
import Derived.SevenTiedAt
namespace Go.Proofs.YtkifcchcofdkaaaDoor.policyBack
open Go Go.ChangeShapes Go.WideShapes Go.ChangeAt Go.RowKit Go.Abs Go.Abs.F
set_option linter.unusedVariables false

theorem knobs : ownKnob Tryd.prog.godebug = none := by kernel_rfl
theorem laid : laidOutB Tryd.prog = true := by kernel_rfl

set_option maxRecDepth 100000 in
theorem lifted (os : Os) (started : os.Started) (H : Type) (enc : TypeId × Value → H) :
    ReturnsInHanded {} Tryd.checked os 4 .any (fun w args => (Rows.policyBackSpec.pre enc Tryd.prog Tryd.f4 [] false w args ∧ laidMetH Tryd.prog Rows.policyBackRow.laid w) ∧ sizedMet enc Tryd.prog Tryd.f4 (OpenSpec.ofChange Rows.policyBackSpec) false w args)
      (Rows.policyBackSpec.post enc Tryd.prog Tryd.f4 false true false false) := by
  refine returnsInHanded_of_change_and (C := Tryd.checked) (X := fun w _ => laidMetH Tryd.prog Rows.policyBackRow.laid w) (fun _ _ _ hh h => h.of_heap hh) knobs started (by kernel_rfl) Tryd.func4
    (ChangeSpec.witness_shaped (enc := enc) (C := Tryd.checked) (os := os) (X := fun w _ => laidMetH Tryd.prog Rows.policyBackRow.laid w) false (World.laidAll Tryd.prog os Rows.policyBackRow.laid) #[.agg #[.int .i64 0, .int .i64 0, .int .i64 0, .int .i64 0, .int .i64 0, .int .i64 0], .int .i64 0, .int .i64 0, .int .i64 0, .int .i64 0] 8 (World.laidAll_os _ _ _)
      (World.shaped_of_ZipB (by kernel_rfl) (by kernel_rfl)) (by kernel_rfl) (by kernel_rfl) (by kernel_rfl)
      (by rw [MakeChecks.laidMetH_plain _ _ _ (by kernel_rfl)]; exact laidMet_laidAll _ (by kernel_rfl) (by kernel_rfl))) ?_
  intro W base args ds gs before hval0 hW _ _ hL _
  have hval : ∀ (j : Nat) t v, Tryd.f4.params[j]? = some t → args[j]? = some v → Value.okWide Tryd.prog W .any base t v := hval0
  have hW' := hW
  obtain ⟨p, q, hA0, hV, rfl, hfz, hnd⟩ := hW
  have hA : DataW.TrodAll enc Tryd.prog W 0 (fun _ => true) true Tryd.f4.params.toList args.toList ds p := hA0
  have hAk := hA
  rw [Tryd.params4] at hA hval
  obtain ⟨v0, vs0, d0, ds0, p0, q0, hargs, rfl, rfl, h0, r0⟩ := trodAll_cons hA
  obtain ⟨v1, vs1, d1, ds1, p1, q1, rfl, rfl, rfl, h1, r1⟩ := trodAll_cons r0
  obtain ⟨v2, vs2, d2, ds2, p2, q2, rfl, rfl, rfl, h2, r2⟩ := trodAll_cons r1
  obtain ⟨v3, vs3, d3, ds3, p3, q3, rfl, rfl, rfl, h3, r3⟩ := trodAll_cons r2
  obtain ⟨v4, vs4, d4, ds4, p4, q4, rfl, rfl, rfl, h4, r4⟩ := trodAll_cons r3
  obtain ⟨rfl, rfl, rfl⟩ := trodAll_nil r4
  obtain rfl : args = #[v0, v1, v2, v3, v4] := by cases args; simp_all
  obtain ⟨rfl, rfl⟩ := trodVars_none hV
  have hC : Calls Tryd.prog 4 #[v0, v1, v2, v3, v4] W fun e u => e = .returned (.bool true) ∧ Kept W u := by
    have k0 := hval 0 25 v0 rfl rfl
    have k1 := hval 1 2 v1 rfl rfl
    have k2 := hval 2 2 v2 rfl rfl
    have k3 := hval 3 2 v3 rfl rfl
    have k4 := hval 4 3 v4 rfl rfl
    have hL2 : laidMet Tryd.prog Rows.policyBackRow.laid W := by have := hL; rwa [MakeChecks.laidMetH_plain _ _ _ (by kernel_rfl)] at this
    have htab : Lib.TabIs Tryd.prog W "internal/strconv.uint64pow10" .u64 Lib.pow10Tab := tabIs_of_laid (g := 0) (t := 77) (e := 32) (n := 20) (j := 2) (by kernel_rfl) (by kernel_rfl) Tryd.underlying77 Tryd.underlying32 (by kernel_rfl) (by kernel_rfl) hL2 (by kernel_rfl)
    have hi_ := Inp.glob (P := Tryd.prog) (g := 0) (by kernel_rfl) htab
    obtain ⟨n4, rfl, rfl, rfl, w4⟩ := open_int Tryd.underlying3 k4 h4
    have hi4 := hi_.flat (x := .int .i64 n4) fun _ => rfl
    obtain ⟨n3, rfl, rfl, rfl, w3⟩ := open_int Tryd.underlying2 k3 h3
    have hi3 := hi4.flat (x := .int .i64 n3) fun _ => rfl
    obtain ⟨n2, rfl, rfl, rfl, w2⟩ := open_int Tryd.underlying2 k2 h2
    have hi2 := hi3.flat (x := .int .i64 n2) fun _ => rfl
    obtain ⟨n1, rfl, rfl, rfl, w1⟩ := open_int Tryd.underlying2 k1 h1
    have hi1 := hi2.flat (x := .int .i64 n1) fun _ => rfl
    obtain ⟨xs0, cs0, rfl, hk0, hx0⟩ := open_agg (ks := [.int .i64, .int .i64, .int .i64, .int .i64, .int .i64, .int .i64]) (n := 4) Tryd.underlying25 (by kernel_rfl) k0 h0
    obtain ⟨e0, rfl, ew0⟩ := pol_row hk0
    have hi0 := hi1.agg hx0
    have wf : tab0.wf := (St.wf_push St.wf_empty _)
    obtain ⟨τ, h⟩ := back_run e0 n1 n2 n3 n4
    exact calls_inp (runQ_sound prim_sound 8192 _) hi0 h
  clear hA0 hval0
  have hlt : ∀ x ∈ p0 ++ (p1 ++ (p2 ++ (p3 ++ (p4 ++ [])))), x.block < W.heap.size := fun x hx => hW'.lt x (by simpa using hx)
  refine hC.mono fun e W' ⟨he, hg⟩ => ?_
  subst he
  exact ⟨_, rfl, post_kept (pv := []) hW' hg rfl (fun _ _ _ => (trodAll_cons_mk (shut_bool Tryd.underlying4 _) trodAll_mk0)) (fun sp hsp => trodAll_stays laid hg hAk (by kernel_rfl) hlt (fun x hx => hsp x (by simpa using hx))) (fun _ _ => rfl) (ok_one (by kernel_rfl) rfl (okWide_bool_mk Tryd.underlying4 _))⟩

theorem over : Rows.policyBackRow.holds Tryd.pinned (OpenSpec.ofChange Rows.policyBackSpec) :=
  OpenClaim.holds_of_wide 4 Tryd.f4 rfl rfl rfl rfl rfl rfl rfl ⟨rfl, rfl, rfl, rfl, rfl⟩ rfl rfl rfl rfl rfl (by kernel_rfl) Tryd.func4 (by kernel_rfl)
    (of_decide_eq_true (by kernel_rfl)) (by unfold Func.isWrapper; first | (rw [if_pos (by decide +kernel)]; kernel_rfl) | (rw [if_neg (by decide +kernel)]; exact ⟨rfl, rfl⟩))
    (fun os started H enc _ => lifted os started H enc)

theorem proved : Rows.PolicyBackCardSaid :=
  Claim7.holds_tied_plain_at .later [] [.data, .data, .data, .data, .sentinel, .sentinel, .pinned] true (true, "770c47f076b0507b93cbb3ffe3a16e16bfbe4e54ae98e7ed023fe4b3f87ff378") true over (fun _ h => by cases h) (by kernel_rfl) (fun _ h => by cases h) policyBack_row_tie rfl ⟨rfl, rfl⟩ (by kernel_rfl) rfl
    (fun f fn hf hfn => by
      obtain rfl : f = 4 := Option.some.inj ((show Tryd.prog.funcNamed "twinkeep/twinkeeplaw5.PolicyBack" = some 4 by kernel_rfl).symm.trans hf) |>.symm
      obtain rfl : fn = Tryd.f4 := (Option.some.inj (Tryd.func4.symm.trans hfn)).symm
      exact ⟨by kernel_rfl, fun j t ht => by
        rw [Tryd.params4] at ht
        have hm : t ∈ [25, 2, 2, 2, 3] := by simpa using Array.mem_of_getElem? ht
        have hall : ([25, 2, 2, 2, 3].all fun u => !Tryd.prog.wantsStandIn u) = true := by kernel_rfl
        exact (show Tryd.prog.wantsStandIn t = false by simpa using List.all_eq_true.1 hall t hm)⟩)
    (by kernel_rfl)
#print axioms proved
end Go.Proofs.YtkifcchcofdkaaaDoor.policyBack

