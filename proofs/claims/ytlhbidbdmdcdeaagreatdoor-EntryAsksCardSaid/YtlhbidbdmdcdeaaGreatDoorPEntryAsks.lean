/-
  EntryAsks returns true whatever the input. The tied card: the tables of the library lie as its text lays them.
-/
import Derived.Test.YtlhbidbdmdcdeaaGreatDoorFnsD
import Derived.Test.YtlhbidbdmdcdeaaGreatDoorAbsE
import Derived.Test.YtlhbidbdmdcdeaaGreatDoorCards
import Derived.Test.YtlhbidbdmdcdeaaGreatDoorTie
import Derived.WalkKit
import Derived.ProofKit
import Derived.OpenShut
import Derived.Lay
import Derived.SevenTiedAt
namespace Go.Proofs.YtlhbidbdmdcdeaaGreatDoor.entryAsks
open Go Go.ChangeShapes Go.WideShapes Go.ChangeAt Go.RowKit Go.Abs Go.Abs.F
set_option linter.unusedVariables false

theorem knobs : ownKnob Tryz.prog.godebug = none := by kernel_rfl
theorem laid : laidOutB Tryz.prog = true := by kernel_rfl

set_option maxRecDepth 100000 in
theorem lifted (os : Os) (started : os.Started) (H : Type) (enc : TypeId × Value → H) :
    ReturnsInHanded {} Tryz.checked os 10 .any (fun w args => (Rows.entryAsksSpec.pre enc Tryz.prog Tryz.f10 [] false w args ∧ laidMetH Tryz.prog Rows.entryAsksRow.laid w) ∧ sizedMet enc Tryz.prog Tryz.f10 (OpenSpec.ofChange Rows.entryAsksSpec) false w args)
      (Rows.entryAsksSpec.post enc Tryz.prog Tryz.f10 false true false false) := by
  refine returnsInHanded_of_change_and (C := Tryz.checked) (X := fun w _ => laidMetH Tryz.prog Rows.entryAsksRow.laid w) (fun _ _ _ hh h => h.of_heap hh) knobs started (by kernel_rfl) Tryz.func10
    (ChangeSpec.witness_shaped (enc := enc) (C := Tryz.checked) (os := os) (X := fun w _ => laidMetH Tryz.prog Rows.entryAsksRow.laid w) false (World.laidAll Tryz.prog os Rows.entryAsksRow.laid) #[.slice none 0 0, .agg #[.int .i64 0, .int .i64 0, .int .i64 0, .int .i64 0, .int .i64 0, .int .i64 0, .int .u32 0, .string ⟨#[]⟩], .agg #[.int .i64 0, .int .i64 0, .int .i64 0, .int .i64 0, .int .i64 0, .int .i64 0, .int .u32 0, .string ⟨#[]⟩], .slice none 0 0] 8 (World.laidAll_os _ _ _)
      (World.shaped_of_ZipB (by kernel_rfl) (by kernel_rfl)) (by kernel_rfl) (by kernel_rfl) (by kernel_rfl)
      (by rw [MakeChecks.laidMetH_plain _ _ _ (by kernel_rfl)]; exact laidMet_laidAll _ (by kernel_rfl) (by kernel_rfl))) ?_
  intro W base args ds gs before hval0 hW _ _ hL _
  have hval : ∀ (j : Nat) t v, Tryz.f10.params[j]? = some t → args[j]? = some v → Value.okWide Tryz.prog W .any base t v := hval0
  have hW' := hW
  obtain ⟨p, q, hA0, hV, rfl, hfz, hnd⟩ := hW
  have hA : DataW.TrodAll enc Tryz.prog W 0 (fun _ => true) true Tryz.f10.params.toList args.toList ds p := hA0
  have hAk := hA
  rw [Tryz.params10] at hA hval
  obtain ⟨v0, vs0, d0, ds0, p0, q0, hargs, rfl, rfl, h0, r0⟩ := trodAll_cons hA
  obtain ⟨v1, vs1, d1, ds1, p1, q1, rfl, rfl, rfl, h1, r1⟩ := trodAll_cons r0
  obtain ⟨v2, vs2, d2, ds2, p2, q2, rfl, rfl, rfl, h2, r2⟩ := trodAll_cons r1
  obtain ⟨v3, vs3, d3, ds3, p3, q3, rfl, rfl, rfl, h3, r3⟩ := trodAll_cons r2
  obtain ⟨rfl, rfl, rfl⟩ := trodAll_nil r3
  obtain rfl : args = #[v0, v1, v2, v3] := by cases args; simp_all
  obtain ⟨rfl, rfl⟩ := trodVars_none hV
  have hC : Calls Tryz.prog 10 #[v0, v1, v2, v3] W fun e u => e = .returned (.bool true) ∧ Kept W u := by
    have k0 := hval 0 26 v0 rfl rfl
    have k1 := hval 1 25 v1 rfl rfl
    have k2 := hval 2 25 v2 rfl rfl
    have k3 := hval 3 27 v3 rfl rfl
    obtain ⟨rows3, hr3, a3, ha3, ln3, hi3⟩ := Inp.flats2 (ks := [.int .u8]) (n := 3) (Inp.nil W) Tryz.underlying27 (by kernel_rfl) (by kernel_rfl) k3 h3
    obtain ⟨xs2, cs2, rfl, hk2, hx2⟩ := open_agg (ks := [.int .i64, .int .i64, .int .i64, .int .i64, .int .i64, .int .i64, .int .u32, .str]) (n := 4) Tryz.underlying25 (by kernel_rfl) k2 h2
    obtain ⟨e2, rfl, ew2⟩ := ent_row hk2
    have hi2 := hi3.agg hx2
    obtain ⟨xs1, cs1, rfl, hk1, hx1⟩ := open_agg (ks := [.int .i64, .int .i64, .int .i64, .int .i64, .int .i64, .int .i64, .int .u32, .str]) (n := 4) Tryz.underlying25 (by kernel_rfl) k1 h1
    obtain ⟨e1, rfl, ew1⟩ := ent_row hk1
    have hi1 := hi2.agg hx1
    obtain ⟨rows0, hr0, a0, ha0, ln0, hi0⟩ := Inp.flats2 (ks := [.int .i64, .int .i64, .int .i64, .int .i64, .int .i64, .int .i64, .int .u32, .str]) (n := 3) hi1 Tryz.underlying26 (by kernel_rfl) (by kernel_rfl) k0 h0
    obtain ⟨x3, is3, rfl, rd3, ow3⟩ := slBytes (s := ((St.empty.push (argBlk rows3.flatten)).push (argBlk rows0.flatten))) ha3 hr3 (by rw [St.get_push_ne _ _ (by simp)]; exact St.get_push_same _ _)
    have lt3 : ∀ c, own x3 = some c → c < ((St.empty.push (argBlk rows3.flatten)).push (argBlk rows0.flatten)).size := fun c hc => by rw [ow3 c hc]; simp
    obtain ⟨x0, is0, rfl, rd0, ow0, ew0, len0⟩ := slEnts (s := ((St.empty.push (argBlk rows3.flatten)).push (argBlk rows0.flatten))) ha0 hr0 (by exact St.get_push_same _ _)
    have lt0 : ∀ c, own x0 = some c → c < ((St.empty.push (argBlk rows3.flatten)).push (argBlk rows0.flatten)).size := fun c hc => by rw [ow0 c hc]; simp
    have wf : ((St.empty.push (argBlk rows3.flatten)).push (argBlk rows0.flatten)).wf := (St.wf_push (St.wf_push St.wf_empty _) _)
    obtain ⟨τ, h⟩ := easks_run 20 wf rd0 lt0 ew0 (by rw [len0]; exact ln0) ew1 ew2 rd3 lt3
    exact calls_inp (runQ_sound prim_sound 8192 _) hi0 h
  clear hA0 hval0
  have hlt : ∀ x ∈ p0 ++ (p1 ++ (p2 ++ (p3 ++ []))), x.block < W.heap.size := fun x hx => hW'.lt x (by simpa using hx)
  refine hC.mono fun e W' ⟨he, hg⟩ => ?_
  subst he
  exact ⟨_, rfl, post_kept (pv := []) hW' hg rfl (fun _ _ _ => (trodAll_cons_mk (shut_bool Tryz.underlying4 _) trodAll_mk0)) (fun sp hsp => trodAll_stays laid hg hAk (by kernel_rfl) hlt (fun x hx => hsp x (by simpa using hx))) (fun _ _ => rfl) (ok_one (by kernel_rfl) rfl (okWide_bool_mk Tryz.underlying4 _))⟩

theorem over : Rows.entryAsksRow.holds Tryz.pinned (OpenSpec.ofChange Rows.entryAsksSpec) :=
  OpenClaim.holds_of_wide 10 Tryz.f10 rfl rfl rfl rfl rfl rfl rfl ⟨rfl, rfl, rfl, rfl, rfl⟩ rfl rfl rfl rfl rfl (by kernel_rfl) Tryz.func10 (by kernel_rfl)
    (of_decide_eq_true (by kernel_rfl)) (by unfold Func.isWrapper; first | (rw [if_pos (by decide +kernel)]; kernel_rfl) | (rw [if_neg (by decide +kernel)]; exact ⟨rfl, rfl⟩))
    (fun os started H enc _ => lifted os started H enc)

theorem proved : Rows.EntryAsksCardSaid :=
  Claim7.holds_tied_plain_at .later [] [.data, .data, .data, .data, .sentinel, .sentinel, .pinned] true (true, "85524f030b3aaf995f0f019bd7e1a3bab04bffa96ea9a552f668c45c66e001ea") true over (fun _ h => by cases h) (by kernel_rfl) (fun _ h => by cases h) entryAsks_row_tie rfl ⟨rfl, rfl⟩ (by kernel_rfl) rfl
    (fun f fn hf hfn => by
      obtain rfl : f = 10 := Option.some.inj ((show Tryz.prog.funcNamed "twinkeep/twinkeeplaw9.EntryAsks" = some 10 by kernel_rfl).symm.trans hf) |>.symm
      obtain rfl : fn = Tryz.f10 := (Option.some.inj (Tryz.func10.symm.trans hfn)).symm
      exact ⟨by kernel_rfl, fun j t ht => by
        rw [Tryz.params10] at ht
        have hm : t ∈ [26, 25, 25, 27] := by simpa using Array.mem_of_getElem? ht
        have hall : ([26, 25, 25, 27].all fun u => !Tryz.prog.wantsStandIn u) = true := by kernel_rfl
        exact (show Tryz.prog.wantsStandIn t = false by simpa using List.all_eq_true.1 hall t hm)⟩)
    (by kernel_rfl)
#print axioms proved
end Go.Proofs.YtlhbidbdmdcdeaaGreatDoor.entryAsks

