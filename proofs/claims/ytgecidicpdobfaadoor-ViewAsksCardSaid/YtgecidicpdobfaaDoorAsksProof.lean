/-
  ViewAsks returns true whatever the grant and the bytes. The tied card: the tables of the library lie as its text lays them.
-/
import Derived.Test.YtgecidicpdobfaaDoorAsks
import Derived.Test.YtgecidicpdobfaaDoorIns
import Derived.Test.YtgecidicpdobfaaDoorNames
import Derived.Test.YtgecidicpdobfaaDoorCards
import Derived.Test.YtgecidicpdobfaaDoorTie
import Derived.WalkKit
import Derived.ProofKit
import Derived.OpenShut
import Derived.Lay
import Derived.SevenTiedAt
namespace Go.Proofs.YtgecidicpdobfaaDoor.viewAsks
open Go Go.ChangeShapes Go.WideShapes Go.ChangeAt Go.RowKit Go.Abs Go.Abs.F
set_option linter.unusedVariables false

theorem own : ownKnob Tryd.prog.godebug = none := by kernel_rfl
theorem laid : laidOutB Tryd.prog = true := by kernel_rfl

set_option maxRecDepth 100000 in
theorem lifted (os : Os) (started : os.Started) (H : Type) (enc : TypeId × Value → H) :
    ReturnsInHanded {} Tryd.checked os 4 .any (fun w args => (Rows.viewAsksSpec.pre enc Tryd.prog Tryd.f4 [] false w args ∧ laidMetH Tryd.prog Rows.viewAsksRow.laid w) ∧ sizedMet enc Tryd.prog Tryd.f4 (OpenSpec.ofChange Rows.viewAsksSpec) false w args)
      (Rows.viewAsksSpec.post enc Tryd.prog Tryd.f4 false true false false) := by
  refine returnsInHanded_of_change_and (C := Tryd.checked) (X := fun w _ => laidMetH Tryd.prog Rows.viewAsksRow.laid w) (fun _ _ _ hh h => h.of_heap hh) own started (by kernel_rfl) Tryd.func4
    (ChangeSpec.witness_shaped (enc := enc) (C := Tryd.checked) (os := os) (X := fun w _ => laidMetH Tryd.prog Rows.viewAsksRow.laid w) false (World.laidAll Tryd.prog os Rows.viewAsksRow.laid) #[.agg #[.int .i64 0, .int .i64 0], .slice none 0 0] 8 (World.laidAll_os _ _ _)
      (World.shaped_of_ZipB (by kernel_rfl) (by kernel_rfl)) (by kernel_rfl) (by kernel_rfl) (by kernel_rfl)
      (by rw [MakeChecks.laidMetH_plain _ _ _ (by kernel_rfl)]; exact laidMet_laidAll _ (by kernel_rfl) (by kernel_rfl))) ?_
  intro W base args ds gs before hval0 hW _ _ hL _
  have hval : ∀ (j : Nat) t v, Tryd.f4.params[j]? = some t → args[j]? = some v → Value.okWide Tryd.prog W .any base t v := hval0
  have hW' := hW
  obtain ⟨p, q, hA0, hV, rfl, hfz, hnd⟩ := hW
  have hA : DataW.TrodAll enc Tryd.prog W 0 (fun _ => true) true Tryd.f4.params.toList args.toList ds p := hA0
  have hAk := hA
  rw [Tryd.params4] at hA hval
  obtain ⟨v0, vs0, d0, ds0, p0, q0, hargs, rfl, rfl, h0, r0⟩ := trodAll_cons hA
  obtain ⟨v1, vs1, d1, ds1, p1, q1, rfl, rfl, rfl, h1, r1⟩ := trodAll_cons r0
  obtain ⟨rfl, rfl, rfl⟩ := trodAll_nil r1
  obtain rfl : args = #[v0, v1] := by cases args; simp_all
  obtain ⟨rfl, rfl⟩ := trodVars_none hV
  have hC : Calls Tryd.prog 4 #[v0, v1] W fun e u => e = .returned (.bool true) ∧ Kept W u := by
    have k0 := hval 0 29 v0 rfl rfl
    have k1 := hval 1 32 v1 rfl rfl
    obtain ⟨rb, hrb, b, hb, hi1⟩ := Inp.flats (ks := [.int .u8]) (n := 3) (Inp.nil W) Tryd.underlying32 (by kernel_rfl) (by kernel_rfl) k1 h1
    obtain ⟨xs, cs, rfl, hxs, hcs⟩ := open_agg (ks := [.int .i64, .int .i64]) (n := 4) Tryd.underlying29 (by kernel_rfl) k0 h0
    obtain ⟨yb, bs, rfl, fb, oc, fo⟩ := arg_U (s := St.empty.push (argBlk rb.flatten)) hb hrb (by simp) (by exact St.get_push_same _ _)
    have hxs' : ∃ v n : Int, xs = [.int .i64 v, .int .i64 n] := by
      cases hxs with
      | cons a r => cases r with
        | cons b r =>
          cases r
          obtain ⟨v, rfl, _⟩ := KS.int a
          obtain ⟨n, rfl, _⟩ := KS.int b
          exact ⟨v, n, rfl⟩
    obtain ⟨v, n, rfl⟩ := hxs'
    obtain ⟨τ, h⟩ := asks_run (St.wf_push St.wf_empty _) v n fb oc fo
    exact calls_inp (runQ_sound prim_sound _ _) (hi1.agg hcs) h
  clear hA0 hval0
  have hlt : ∀ x ∈ p0 ++ (p1 ++ []), x.block < W.heap.size := fun x hx => hW'.lt x (by simpa using hx)
  refine hC.mono fun e W' ⟨he, hg⟩ => ?_
  subst he
  exact ⟨_, rfl, post_kept (pv := []) hW' hg rfl (fun _ _ _ => (trodAll_cons_mk (shut_bool Tryd.underlying4 _) trodAll_mk0)) (fun sp hsp => trodAll_stays laid hg hAk (by kernel_rfl) hlt (fun x hx => hsp x (by simpa using hx))) (fun _ _ => rfl) (ok_one (by kernel_rfl) rfl (okWide_bool_mk Tryd.underlying4 _))⟩

theorem over : Rows.viewAsksRow.holds Tryd.pinned (OpenSpec.ofChange Rows.viewAsksSpec) :=
  OpenClaim.holds_of_wide 4 Tryd.f4 rfl rfl rfl rfl rfl rfl rfl ⟨rfl, rfl, rfl, rfl, rfl⟩ rfl rfl rfl rfl rfl (by kernel_rfl) Tryd.func4 (by kernel_rfl)
    (of_decide_eq_true (by kernel_rfl)) (by unfold Func.isWrapper; first | (rw [if_pos (by decide +kernel)]; kernel_rfl) | (rw [if_neg (by decide +kernel)]; exact ⟨rfl, rfl⟩))
    (fun os started H enc _ => lifted os started H enc)

theorem proved : Rows.ViewAsksCardSaid :=
  Claim7.holds_tied_plain_at .later [] [.data, .pinned] true (true, "7c960ec415dd9c4dd1144209b4725eb9f24bd2f30078c4b70b494f0f6e5c07de") false over (fun _ h => by cases h) (by kernel_rfl) (fun _ h => by cases h) viewAsks_row_tie rfl ⟨rfl, rfl⟩ (by kernel_rfl) rfl
    (fun f fn hf hfn => by
      obtain rfl : f = 4 := Option.some.inj ((show Tryd.prog.funcNamed "twinkeep/twinkeeplaw17.ViewAsks" = some 4 by kernel_rfl).symm.trans hf) |>.symm
      obtain rfl : fn = Tryd.f4 := (Option.some.inj (Tryd.func4.symm.trans hfn)).symm
      exact ⟨by kernel_rfl, fun j t ht => by
        rw [Tryd.params4] at ht
        have hm : t ∈ [29, 32] := by simpa using Array.mem_of_getElem? ht
        have hall : ([29, 32].all fun u => !Tryd.prog.wantsStandIn u) = true := by kernel_rfl
        exact (show Tryd.prog.wantsStandIn t = false by simpa using List.all_eq_true.1 hall t hm)⟩)
    (by kernel_rfl)
#print axioms proved
end Go.Proofs.YtgecidicpdobfaaDoor.viewAsks
