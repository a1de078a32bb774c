/-
  LogAsks returns true whatever the input. The tied card: the tables of the library lie as its text lays them.
-/
import Derived.Test.YtlhbidbdmdcdeaaGreatDoorFnsD
import Derived.Test.YtlhbidbdmdcdeaaGreatDoorFnsE
import Derived.Test.YtlhbidbdmdcdeaaGreatDoorAbsE
import Derived.Test.YtlhbidbdmdcdeaaGreatDoorCards
import Derived.Test.YtlhbidbdmdcdeaaGreatDoorTie
import Derived.WalkKit
import Derived.ProofKit
import Derived.OpenShut
import Derived.Lay
import Derived.SevenTiedAt
namespace Go.Proofs.YtlhbidbdmdcdeaaGreatDoor.logAsks
open Go Go.ChangeShapes Go.WideShapes Go.ChangeAt Go.RowKit Go.Abs Go.Abs.F
set_option linter.unusedVariables false

theorem knobs : ownKnob Tryz.prog.godebug = none := by kernel_rfl
theorem laid : laidOutB Tryz.prog = true := by kernel_rfl

set_option maxRecDepth 100000 in
theorem lifted (os : Os) (started : os.Started) (H : Type) (enc : TypeId × Value → H) :
    ReturnsInHanded {} Tryz.checked os 4 .any (fun w args => (Rows.logAsksSpec.pre enc Tryz.prog Tryz.f4 [] false w args ∧ laidMetH Tryz.prog Rows.logAsksRow.laid w) ∧ sizedMet enc Tryz.prog Tryz.f4 (OpenSpec.ofChange Rows.logAsksSpec) false w args)
      (Rows.logAsksSpec.post enc Tryz.prog Tryz.f4 false true false false) := by
  refine returnsInHanded_of_change_and (C := Tryz.checked) (X := fun w _ => laidMetH Tryz.prog Rows.logAsksRow.laid w) (fun _ _ _ hh h => h.of_heap hh) knobs started (by kernel_rfl) Tryz.func4
    (ChangeSpec.witness_shaped (enc := enc) (C := Tryz.checked) (os := os) (X := fun w _ => laidMetH Tryz.prog Rows.logAsksRow.laid w) false (World.laidAll Tryz.prog os Rows.logAsksRow.laid) #[.slice none 0 0, .slice none 0 0, .slice none 0 0] 8 (World.laidAll_os _ _ _)
      (World.shaped_of_ZipB (by kernel_rfl) (by kernel_rfl)) (by kernel_rfl) (by kernel_rfl) (by kernel_rfl)
      (by rw [MakeChecks.laidMetH_plain _ _ _ (by kernel_rfl)]; exact laidMet_laidAll _ (by kernel_rfl) (by kernel_rfl))) ?_
  intro W base args ds gs before hval0 hW _ _ hL _
  have hval : ∀ (j : Nat) t v, Tryz.f4.params[j]? = some t → args[j]? = some v → Value.okWide Tryz.prog W .any base t v := hval0
  have hW' := hW
  obtain ⟨p, q, hA0, hV, rfl, hfz, hnd⟩ := hW
  have hA : DataW.TrodAll enc Tryz.prog W 0 (fun _ => true) true Tryz.f4.params.toList args.toList ds p := hA0
  have hAk := hA
  rw [Tryz.params4] at hA hval
  obtain ⟨v0, vs0, d0, ds0, p0, q0, hargs, rfl, rfl, h0, r0⟩ := trodAll_cons hA
  obtain ⟨v1, vs1, d1, ds1, p1, q1, rfl, rfl, rfl, h1, r1⟩ := trodAll_cons r0
  obtain ⟨v2, vs2, d2, ds2, p2, q2, rfl, rfl, rfl, h2, r2⟩ := trodAll_cons r1
  obtain ⟨rfl, rfl, rfl⟩ := trodAll_nil r2
  obtain rfl : args = #[v0, v1, v2] := by cases args; simp_all
  obtain ⟨rfl, rfl⟩ := trodVars_none hV
  have hC : Calls Tryz.prog 4 #[v0, v1, v2] W fun e u => e = .returned (.bool true) ∧ Kept W u := by
    have k0 := hval 0 26 v0 rfl rfl
    have k1 := hval 1 26 v1 rfl rfl
    have k2 := hval 2 27 v2 rfl rfl
    obtain ⟨rows2, hr2, a2, ha2, ln2, hi2⟩ := Inp.flats2 (ks := [.int .u8]) (n := 3) (Inp.nil W) Tryz.underlying27 (by kernel_rfl) (by kernel_rfl) k2 h2
    obtain ⟨rows1, hr1, a1, ha1, ln1, hi1⟩ := Inp.flats2 (ks := [.int .i64, .int .i64, .int .i64, .int .i64, .int .i64, .int .i64, .int .u32, .str]) (n := 3) hi2 Tryz.underlying26 (by kernel_rfl) (by kernel_rfl) k1 h1
    obtain ⟨rows0, hr0, a0, ha0, ln0, hi0⟩ := Inp.flats2 (ks := [.int .i64, .int .i64, .int .i64, .int .i64, .int .i64, .int .i64, .int .u32, .str]) (n := 3) hi1 Tryz.underlying26 (by kernel_rfl) (by kernel_rfl) k0 h0
    obtain ⟨x2, is2, rfl, rd2, ow2⟩ := slBytes (s := (((St.empty.push (argBlk rows2.flatten)).push (argBlk rows1.flatten)).push (argBlk rows0.flatten))) ha2 hr2 (by rw [St.get_push_ne _ _ (by simp)]; rw [St.get_push_ne _ _ (by simp)]; exact St.get_push_same _ _)
    have lt2 : ∀ c, own x2 = some c → c < (((St.empty.push (argBlk rows2.flatten)).push (argBlk rows1.flatten)).push (argBlk rows0.flatten)).size := fun c hc => by rw [ow2 c hc]; simp
    obtain ⟨x1, is1, rfl, rd1, ow1, ew1, len1⟩ := slEnts (s := (((St.empty.push (argBlk rows2.flatten)).push (argBlk rows1.flatten)).push (argBlk rows0.flatten))) ha1 hr1 (by rw [St.get_push_ne _ _ (by simp)]; exact St.get_push_same _ _)
    have lt1 : ∀ c, own x1 = some c → c < (((St.empty.push (argBlk rows2.flatten)).push (argBlk rows1.flatten)).push (argBlk rows0.flatten)).size := fun c hc => by rw [ow1 c hc]; simp
    obtain ⟨x0, is0, rfl, rd0, ow0, ew0, len0⟩ := slEnts (s := (((St.empty.push (argBlk rows2.flatten)).push (argBlk rows1.flatten)).push (argBlk rows0.flatten))) ha0 hr0 (by exact St.get_push_same _ _)
    have lt0 : ∀ c, own x0 = some c → c < (((St.empty.push (argBlk rows2.flatten)).push (argBlk rows1.flatten)).push (argBlk rows0.flatten)).size := fun c hc => by rw [ow0 c hc]; simp
    have wf : (((St.empty.push (argBlk rows2.flatten)).push (argBlk rows1.flatten)).push (argBlk rows0.flatten)).wf := (St.wf_push (St.wf_push (St.wf_push St.wf_empty _) _) _)
    obtain ⟨τ, h⟩ := asks_run 20 wf rd0 lt0 ew0 (by rw [len0]; exact ln0) rd1 lt1 ew1 (by rw [len1]; exact ln1) rd2 lt2
    exact calls_inp (runQ_sound prim_sound 8192 _) hi0 h
  clear hA0 hval0
  have hlt : ∀ x ∈ p0 ++ (p1 ++ (p2 ++ [])), x.block < W.heap.size := fun x hx => hW'.lt x (by simpa using hx)
  refine hC.mono fun e W' ⟨he, hg⟩ => ?_
  subst he
  exact ⟨_, rfl, post_kept (pv := []) hW' hg rfl (fun _ _ _ => (trodAll_cons_mk (shut_bool Tryz.underlying4 _) trodAll_mk0)) (fun sp hsp => trodAll_stays laid hg hAk (by kernel_rfl) hlt (fun x hx => hsp x (by simpa using hx))) (fun _ _ => rfl) (ok_one (by kernel_rfl) rfl (okWide_bool_mk Tryz.underlying4 _))⟩

theorem over : Rows.logAsksRow.holds Tryz.pinned (OpenSpec.ofChange Rows.logAsksSpec) :=
  OpenClaim.holds_of_wide 4 Tryz.f4 rfl rfl rfl rfl rfl rfl rfl ⟨rfl, rfl, rfl, rfl, rfl⟩ rfl rfl rfl rfl rfl (by kernel_rfl) Tryz.func4 (by kernel_rfl)
    (of_decide_eq_true (by kernel_rfl)) (by unfold Func.isWrapper; first | (rw [if_pos (by decide +kernel)]; kernel_rfl) | (rw [if_neg (by decide +kernel)]; exact ⟨rfl, rfl⟩))
    (fun os started H enc _ => lifted os started H enc)

theorem proved : Rows.LogAsksCardSaid :=
  Claim7.holds_tied_plain_at .later [] [.data, .data, .data, .data, .sentinel, .sentinel, .pinned] true (true, "85524f030b3aaf995f0f019bd7e1a3bab04bffa96ea9a552f668c45c66e001ea") true over (fun _ h => by cases h) (by kernel_rfl) (fun _ h => by cases h) logAsks_row_tie rfl ⟨rfl, rfl⟩ (by kernel_rfl) rfl
    (fun f fn hf hfn => by
      obtain rfl : f = 4 := Option.some.inj ((show Tryz.prog.funcNamed "twinkeep/twinkeeplaw10.LogAsks" = some 4 by kernel_rfl).symm.trans hf) |>.symm
      obtain rfl : fn = Tryz.f4 := (Option.some.inj (Tryz.func4.symm.trans hfn)).symm
      exact ⟨by kernel_rfl, fun j t ht => by
        rw [Tryz.params4] at ht
        have hm : t ∈ [26, 26, 27] := by simpa using Array.mem_of_getElem? ht
        have hall : ([26, 26, 27].all fun u => !Tryz.prog.wantsStandIn u) = true := by kernel_rfl
        exact (show Tryz.prog.wantsStandIn t = false by simpa using List.all_eq_true.1 hall t hm)⟩)
    (by kernel_rfl)
#print axioms proved
end Go.Proofs.YtlhbidbdmdcdeaaGreatDoor.logAsks
