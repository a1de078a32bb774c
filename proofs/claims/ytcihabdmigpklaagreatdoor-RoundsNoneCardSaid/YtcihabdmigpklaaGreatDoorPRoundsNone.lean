/-
  RoundsNone returns true whatever the input. The tied card: the tables of the library lie as its text lays them.
-/
import Derived.Test.YtcihabdmigpklaaGreatDoorFnsO
import Derived.Test.YtcihabdmigpklaaGreatDoorAbsE
import Derived.Test.YtcihabdmigpklaaGreatDoorOverRoundsNone
import Derived.Test.YtcihabdmigpklaaGreatDoorFnsQ
import Derived.Test.YtcihabdmigpklaaGreatDoorCards
import Derived.Test.YtcihabdmigpklaaGreatDoorTie
import Derived.WalkKit
import Derived.ProofKit
import Derived.OpenShut
import Derived.Lay
import Derived.SevenTiedAt
namespace Go.Proofs.YtcihabdmigpklaaGreatDoor.roundsNone
open Go Go.ChangeShapes Go.WideShapes Go.ChangeAt Go.RowKit Go.Abs Go.Abs.F
set_option linter.unusedVariables false

theorem knobs : ownKnob Tryz.prog.godebug = none := by kernel_rfl
theorem laid : laidOutB Tryz.prog = true := by kernel_rfl

set_option maxRecDepth 100000 in
theorem lifted (os : Os) (started : os.Started) (H : Type) (enc : TypeId × Value → H) :
    ReturnsInHanded {} Tryz.checked os 3 .any (fun w args => (Rows.roundsNoneSpec.pre enc Tryz.prog Tryz.f3 [] false w args ∧ laidMetH Tryz.prog Rows.roundsNoneRow.laid w) ∧ sizedMet enc Tryz.prog Tryz.f3 (OpenSpec.ofChange Rows.roundsNoneSpec) false w args)
      (Rows.roundsNoneSpec.post enc Tryz.prog Tryz.f3 false true false false) := by
  refine returnsInHanded_of_change_and (C := Tryz.checked) (X := fun w _ => laidMetH Tryz.prog Rows.roundsNoneRow.laid w) (fun _ _ _ hh h => h.of_heap hh) knobs started (by kernel_rfl) Tryz.func3
    (ChangeSpec.witness_shaped (enc := enc) (C := Tryz.checked) (os := os) (X := fun w _ => laidMetH Tryz.prog Rows.roundsNoneRow.laid w) false (World.laidAll Tryz.prog os Rows.roundsNoneRow.laid) #[.int .i64 0, .int .i64 0] 8 (World.laidAll_os _ _ _)
      (World.shaped_of_ZipB (by kernel_rfl) (by kernel_rfl)) (by kernel_rfl) (by kernel_rfl) (by kernel_rfl)
      (by rw [MakeChecks.laidMetH_plain _ _ _ (by kernel_rfl)]; exact laidMet_laidAll _ (by kernel_rfl) (by kernel_rfl))) ?_
  intro W base args ds gs before hval0 hW _ _ hL _
  have hval : ∀ (j : Nat) t v, Tryz.f3.params[j]? = some t → args[j]? = some v → Value.okWide Tryz.prog W .any base t v := hval0
  have hW' := hW
  obtain ⟨p, q, hA0, hV, rfl, hfz, hnd⟩ := hW
  have hA : DataW.TrodAll enc Tryz.prog W 0 (fun _ => true) true Tryz.f3.params.toList args.toList ds p := hA0
  have hAk := hA
  rw [Tryz.params3] at hA hval
  obtain ⟨v0, vs0, d0, ds0, p0, q0, hargs, rfl, rfl, h0, r0⟩ := trodAll_cons hA
  obtain ⟨v1, vs1, d1, ds1, p1, q1, rfl, rfl, rfl, h1, r1⟩ := trodAll_cons r0
  obtain ⟨rfl, rfl, rfl⟩ := trodAll_nil r1
  obtain rfl : args = #[v0, v1] := by cases args; simp_all
  obtain ⟨rfl, rfl⟩ := trodVars_none hV
  have hC : Calls Tryz.prog 3 #[v0, v1] W fun e u => e = .returned (.bool true) ∧ Kept W u := by
    have k0 := hval 0 3 v0 rfl rfl
    have k1 := hval 1 3 v1 rfl rfl
    obtain ⟨n1, rfl, rfl, rfl, w1⟩ := open_int Tryz.underlying3 k1 h1
    have hi1 := (Inp.nil W).flat (x := .int .i64 n1) fun _ => rfl
    obtain ⟨n0, rfl, rfl, rfl, w0⟩ := open_int Tryz.underlying3 k0 h0
    have hi0 := hi1.flat (x := .int .i64 n0) fun _ => rfl
    have wf : St.empty.wf := St.wf_empty
    obtain ⟨τ, h⟩ := none_run n0 n1
    exact calls_inp (E2_sound _) hi0 h
  clear hA0 hval0
  have hlt : ∀ x ∈ p0 ++ (p1 ++ []), x.block < W.heap.size := fun x hx => hW'.lt x (by simpa using hx)
  refine hC.mono fun e W' ⟨he, hg⟩ => ?_
  subst he
  exact ⟨_, rfl, post_kept (pv := []) hW' hg rfl (fun _ _ _ => (trodAll_cons_mk (shut_bool Tryz.underlying4 _) trodAll_mk0)) (fun sp hsp => trodAll_stays laid hg hAk (by kernel_rfl) hlt (fun x hx => hsp x (by simpa using hx))) (fun _ _ => rfl) (ok_one (by kernel_rfl) rfl (okWide_bool_mk Tryz.underlying4 _))⟩

theorem named_ : Tryz.prog.funcNamed "twinkeep/twinkeeplaw26.RoundsNone" = some 3 := by kernel_rfl
theorem inst_ : Tryz.f3.isInstance Tryz.prog Rows.roundsNoneRow.origin Rows.roundsNoneRow.targs := of_decide_eq_true (by kernel_rfl)
theorem wrap_ : Tryz.f3.isWrapper Tryz.prog Rows.roundsNoneRow.wrapper Rows.roundsNoneRow.mainSum := by unfold Func.isWrapper; first | (rw [if_pos (by decide +kernel)]; kernel_rfl) | (rw [if_neg (by decide +kernel)]; exact ⟨rfl, rfl⟩)
theorem text_ : Rows.roundsNoneRow.wfByText (OpenSpec.ofChange Rows.roundsNoneSpec) = true := by kernel_rfl
theorem main_ : Tryz.prog.mainIs = some (true, ((true, "1203f8a94d614d02bdf5e2fb26f9a27588b732acfc9ee5df79d95877df0a05e1") : Bool × String).2.toList) := by kernel_rfl
theorem looks_ : true = Tryz.prog.looks [] := by kernel_rfl
theorem alone_ : ([3, 3].all fun u => !Tryz.prog.wantsStandIn u) = true := by kernel_rfl
theorem over : Rows.roundsNoneRow.holds Tryz.pinned (OpenSpec.ofChange Rows.roundsNoneSpec) :=
  OpenClaim.holds_of_wide 3 Tryz.f3 rfl rfl rfl rfl rfl rfl rfl ⟨rfl, rfl, rfl, rfl, rfl⟩ rfl rfl rfl rfl rfl named_ Tryz.func3 joined inst_ wrap_ (fun os started H enc _ => lifted os started H enc)

theorem proved : Rows.RoundsNoneCardSaid :=
  Claim7.holds_tied_plain_at .later [] [.data, .data, .data, .data, .sentinel, .sentinel, .pinned] true (true, "1203f8a94d614d02bdf5e2fb26f9a27588b732acfc9ee5df79d95877df0a05e1") true over (fun _ h => by cases h) text_ (fun _ h => by cases h) roundsNone_row_tie rfl ⟨rfl, rfl⟩ main_ rfl
    (fun f fn hf hfn => by
      obtain rfl : f = 3 := Option.some.inj (named_.symm.trans hf) |>.symm
      obtain rfl : fn = Tryz.f3 := (Option.some.inj (Tryz.func3.symm.trans hfn)).symm
      exact ⟨looks_, fun j t ht => by
        rw [Tryz.params3] at ht
        have hm : t ∈ [3, 3] := by simpa using Array.mem_of_getElem? ht
        exact (show Tryz.prog.wantsStandIn t = false by simpa using List.all_eq_true.1 alone_ t hm)⟩)
    (goes_none noGoes _).symm
#print axioms proved
end Go.Proofs.YtcihabdmigpklaaGreatDoor.roundsNone
