/-
  DiskRoom returns true whatever the room and the bytes. The tied card: the tables of the library lie as its text lays them.
-/
import Derived.Test.YtinmpngfehamcaaDoorRoom
import Derived.Test.YtinmpngfehamcaaDoorNames
import Derived.Test.YtinmpngfehamcaaDoorCards
import Derived.Test.YtinmpngfehamcaaDoorTie
import Derived.WalkKit
import Derived.ProofKit
import Derived.OpenShut
import Derived.Lay
import Derived.SevenTiedAt
namespace Go.Proofs.YtinmpngfehamcaaDoor.diskRoom
open Go Go.ChangeShapes Go.WideShapes Go.ChangeAt Go.RowKit Go.Abs Go.Abs.F
set_option linter.unusedVariables false

theorem own : ownKnob Tryd.prog.godebug = none := by kernel_rfl
theorem laid : laidOutB Tryd.prog = true := by kernel_rfl

set_option maxRecDepth 100000 in
theorem lifted (os : Os) (started : os.Started) (H : Type) (enc : TypeId × Value → H) :
    ReturnsInHanded {} Tryd.checked os 6 .any (fun w args => (Rows.diskRoomSpec.pre enc Tryd.prog Tryd.f6 [] false w args ∧ laidMetH Tryd.prog Rows.diskRoomRow.laid w) ∧ sizedMet enc Tryd.prog Tryd.f6 (OpenSpec.ofChange Rows.diskRoomSpec) false w args)
      (Rows.diskRoomSpec.post enc Tryd.prog Tryd.f6 false true false false) := by
  refine returnsInHanded_of_change_and (C := Tryd.checked) (X := fun w _ => laidMetH Tryd.prog Rows.diskRoomRow.laid w) (fun _ _ _ hh h => h.of_heap hh) own started (by kernel_rfl) Tryd.func6
    (ChangeSpec.witness_shaped (enc := enc) (C := Tryd.checked) (os := os) (X := fun w _ => laidMetH Tryd.prog Rows.diskRoomRow.laid w) false (World.laidAll Tryd.prog os Rows.diskRoomRow.laid) #[.int .i64 0, .slice none 0 0] 8 (World.laidAll_os _ _ _)
      (World.shaped_of_ZipB (by kernel_rfl) (by kernel_rfl)) (by kernel_rfl) (by kernel_rfl) (by kernel_rfl)
      (by rw [MakeChecks.laidMetH_plain _ _ _ (by kernel_rfl)]; exact laidMet_laidAll _ (by kernel_rfl) (by kernel_rfl))) ?_
  intro W base args ds gs before hval0 hW _ _ hL _
  have hval : ∀ (j : Nat) t v, Tryd.f6.params[j]? = some t → args[j]? = some v → Value.okWide Tryd.prog W .any base t v := hval0
  have hW' := hW
  obtain ⟨p, q, hA0, hV, rfl, hfz, hnd⟩ := hW
  have hA : DataW.TrodAll enc Tryd.prog W 0 (fun _ => true) true Tryd.f6.params.toList args.toList ds p := hA0
  have hAk := hA
  rw [Tryd.params6] at hA hval
  obtain ⟨v0, vs0, d0, ds0, p0, q0, hargs, rfl, rfl, h0, r0⟩ := trodAll_cons hA
  obtain ⟨v1, vs1, d1, ds1, p1, q1, rfl, rfl, rfl, h1, r1⟩ := trodAll_cons r0
  obtain ⟨rfl, rfl, rfl⟩ := trodAll_nil r1
  obtain rfl : args = #[v0, v1] := by cases args; simp_all
  obtain ⟨rfl, rfl⟩ := trodVars_none hV
  have hC : Calls Tryd.prog 6 #[v0, v1] W fun e u => e = .returned (.bool true) ∧ Kept W u := by
    have k0 := hval 0 3 v0 rfl rfl
    have k1 := hval 1 22 v1 rfl rfl
    obtain ⟨rb, hrb, b, hb, hi1⟩ := Inp.flats (ks := [.int .u8]) (n := 3) (Inp.nil W) Tryd.underlying22 (by kernel_rfl) (by kernel_rfl) k1 h1
    obtain ⟨n0, rfl, rfl, rfl, w0⟩ := open_int Tryd.underlying3 k0 h0
    obtain ⟨yb, rfl, fb⟩ := arg_of (s := St.empty.push (argBlk rb.flatten)) hb hrb (by simp) (by exact St.get_push_same _ _)
    obtain ⟨τ, h⟩ := room_run _ (St.wf_push St.wf_empty _) fb n0
    exact calls_inp (runQ_sound prim_sound _ _) (hi1.flat (x := .int .i64 n0) fun _ => rfl) h
  clear hA0 hval0
  have hlt : ∀ x ∈ p0 ++ (p1 ++ []), x.block < W.heap.size := fun x hx => hW'.lt x (by simpa using hx)
  refine hC.mono fun e W' ⟨he, hg⟩ => ?_
  subst he
  exact ⟨_, rfl, post_kept (pv := []) hW' hg rfl (fun _ _ _ => (trodAll_cons_mk (shut_bool Tryd.underlying4 _) trodAll_mk0)) (fun sp hsp => trodAll_stays laid hg hAk (by kernel_rfl) hlt (fun x hx => hsp x (by simpa using hx))) (fun _ _ => rfl) (ok_one (by kernel_rfl) rfl (okWide_bool_mk Tryd.underlying4 _))⟩

theorem over : Rows.diskRoomRow.holds Tryd.pinned (OpenSpec.ofChange Rows.diskRoomSpec) :=
  OpenClaim.holds_of_wide 6 Tryd.f6 rfl rfl rfl rfl rfl rfl rfl ⟨rfl, rfl, rfl, rfl, rfl⟩ rfl rfl rfl rfl rfl (by kernel_rfl) Tryd.func6 (by kernel_rfl)
    (of_decide_eq_true (by kernel_rfl)) (by unfold Func.isWrapper; first | (rw [if_pos (by decide +kernel)]; kernel_rfl) | (rw [if_neg (by decide +kernel)]; exact ⟨rfl, rfl⟩))
    (fun os started H enc _ => lifted os started H enc)

theorem proved : Rows.DiskRoomCardSaid :=
  Claim7.holds_tied_plain_at .later [] [.data, .pinned] true (true, "ffbf139a25768fbf683830811fce093505d911863b9e142e567cd4c5031b10e0") false over (fun _ h => by cases h) (by kernel_rfl) (fun _ h => by cases h) diskRoom_row_tie rfl ⟨rfl, rfl⟩ (by kernel_rfl) rfl
    (fun f fn hf hfn => by
      obtain rfl : f = 6 := Option.some.inj ((show Tryd.prog.funcNamed "twinkeep/twinkeeplaw11.DiskRoom" = some 6 by kernel_rfl).symm.trans hf) |>.symm
      obtain rfl : fn = Tryd.f6 := (Option.some.inj (Tryd.func6.symm.trans hfn)).symm
      exact ⟨by kernel_rfl, fun j t ht => by
        rw [Tryd.params6] at ht
        have hm : t ∈ [3, 22] := by simpa using Array.mem_of_getElem? ht
        have hall : ([3, 22].all fun u => !Tryd.prog.wantsStandIn u) = true := by kernel_rfl
        exact (show Tryd.prog.wantsStandIn t = false by simpa using List.all_eq_true.1 hall t hm)⟩)
    (by kernel_rfl)
#print axioms proved
end Go.Proofs.YtinmpngfehamcaaDoor.diskRoom
