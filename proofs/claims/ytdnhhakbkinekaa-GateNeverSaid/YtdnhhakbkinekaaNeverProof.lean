/-
  GateNever returns true whatever its segments, the time and the number are. No conditions.
-/
import Derived.Test.YtdnhhakbkinekaaNever
import Derived.Test.YtdnhhakbkinekaaRows
import Derived.WalkKit
import Derived.ProofKit
import Derived.OpenShut
namespace Go.Proofs.Ytdnhhakbkinekaa.gateNever
open Go.ChangeShapes Go.WideShapes Go.ChangeAt Go.RowKit Go.Abs Go.Abs.F
set_option linter.unusedVariables false

theorem own : ownKnob Try.prog.godebug = none := by kernel_rfl
theorem laid : laidOutB Try.prog = true := by kernel_rfl

set_option maxRecDepth 100000 in
theorem lifted (os : Os) (started : os.Started) (H : Type) (enc : TypeId × Value → H) :
    ReturnsInHanded {} Try.checked os 4 .any (Rows.gateNeverSpec.pre6 enc Try.prog Try.f4 Rows.gateNeverRow.domain false) (Rows.gateNeverSpec.post enc Try.prog Try.f4 false true false false) := by
  refine returnsInHanded_of_change (C := Try.checked) own started (by kernel_rfl) Try.func4
    (ChangeSpec.witness6 (enc := enc) (C := Try.checked) false ⟨#[], #[.slice none 0 0, .slice none 0 0, .int .i64 0, .int .i64 0], []⟩ 8 (by kernel_rfl) (by kernel_rfl) (by kernel_rfl) (by kernel_rfl)) ?_
  intro W base args ds gs before hval0 hW hcnd _
  have hval : ∀ (j : Nat) t v, Try.f4.params[j]? = some t → args[j]? = some v → Value.okWide Try.prog W .any base t v := hval0
  have hW' := hW
  obtain ⟨p, q, hA0, hV, rfl, hfz, hnd⟩ := hW
  have hA : DataW.TrodAll enc Try.prog W 0 (fun _ => true) true Try.f4.params.toList args.toList ds p := hA0
  have hAk := hA
  rw [Try.params4] at hA hval
  obtain ⟨v0, vs0, d0, ds0, p0, q0, hargs, rfl, rfl, h0, r0⟩ := trodAll_cons hA
  obtain ⟨v1, vs1, d1, ds1, p1, q1, rfl, rfl, rfl, h1, r1⟩ := trodAll_cons r0
  obtain ⟨v2, vs2, d2, ds2, p2, q2, rfl, rfl, rfl, h2, r2⟩ := trodAll_cons r1
  obtain ⟨v3, vs3, d3, ds3, p3, q3, rfl, rfl, rfl, h3, r3⟩ := trodAll_cons r2
  obtain ⟨rfl, rfl, rfl⟩ := trodAll_nil r3
  obtain rfl : args = #[v0, v1, v2, v3] := by cases args; simp_all
  obtain ⟨rfl, rfl⟩ := trodVars_none hV
  have hC : Calls Try.prog 4 #[v0, v1, v2, v3] W fun e u => e = .returned (.bool true) ∧ Kept W u := by
    have k0 := hval 0 26 v0 rfl rfl
    have k1 := hval 1 26 v1 rfl rfl
    have k2 := hval 2 2 v2 rfl rfl
    have k3 := hval 3 3 v3 rfl rfl
    obtain ⟨n3, rfl, rfl, rfl, w3⟩ := open_int Try.underlying3 k3 h3
    obtain ⟨n2, rfl, rfl, rfl, w2⟩ := open_int Try.underlying2 k2 h2
    have hnow : n2 < 2 ^ 63 := by
      simp [Lit.wf, IntKind.min, IntKind.max, IntKind.signed, IntKind.bits] at w2
      omega
    obtain ⟨rb, hrb, b, hb, hi1⟩ := Inp.flats (ks := [.int .i64, .int .i64, .int .i64, .int .i64, .int .u32]) (n := 3) (((Inp.nil W).flat (x := .int .i64 n3) fun _ => rfl).flat (x := .int .i64 n2) fun _ => rfl) Try.underlying26 (by kernel_rfl) (by kernel_rfl) k1 h1
    obtain ⟨ra, hra, a, ha, hi0⟩ := Inp.flats (ks := [.int .i64, .int .i64, .int .i64, .int .i64, .int .u32]) (n := 3) hi1 Try.underlying26 (by kernel_rfl) (by kernel_rfl) k0 h0
    obtain ⟨ya, rfl, fa⟩ := sr_of (s := (St.empty.push (argBlk rb.flatten)).push (argBlk ra.flatten)) ha (fun q hq => seg_of (hra q hq)) (by exact St.get_push_same _ _)
    obtain ⟨yb, rfl, fb⟩ := sr_of (s := (St.empty.push (argBlk rb.flatten)).push (argBlk ra.flatten)) hb (fun q hq => seg_of (hrb q hq)) (by rw [St.get_push_ne _ _ (by simp)]; exact St.get_push_same St.empty _)
    obtain ⟨τ, h⟩ := never_run _ (St.wf_push (St.wf_push St.wf_empty _) _) fa fb (fun q hq => seg_of (hra q hq)) (fun q hq => seg_of (hrb q hq)) n2 n3 hnow
    exact calls_inp (runQ_sound prim_sound _ _) hi0 h
  clear hA0 hval0
  have hlt : ∀ x ∈ p0 ++ (p1 ++ (p2 ++ (p3 ++ []))), x.block < W.heap.size := fun x hx => hW'.lt x (by simpa using hx)
  refine hC.mono fun e W' ⟨he, hg⟩ => ?_
  subst he
  exact ⟨_, rfl, post_kept (pv := []) hW' hg rfl (fun _ _ _ => (trodAll_cons_mk (shut_bool Try.underlying4 _) trodAll_mk0)) (fun sp hsp => trodAll_stays laid hg hAk (by kernel_rfl) hlt (fun x hx => hsp x (by simpa using hx))) (fun _ _ => rfl) (ok_one (by kernel_rfl) rfl (okWide_bool_mk Try.underlying4 _))⟩

theorem over : Rows.gateNeverRow.holds Try.pinned (OpenSpec.ofChange Rows.gateNeverSpec) :=
  OpenClaim.holds_of_wide 4 Try.f4 rfl rfl rfl rfl rfl rfl rfl ⟨rfl, rfl, rfl, rfl, rfl⟩ rfl rfl rfl rfl rfl (by kernel_rfl) Try.func4 (by kernel_rfl)
    (of_decide_eq_true (by kernel_rfl)) (by unfold Func.isWrapper; first | (rw [if_pos (by decide +kernel)]; kernel_rfl) | (rw [if_neg (by decide +kernel)]; exact ⟨rfl, rfl⟩))
    (fun os started H enc _ => lifted os started H enc)

theorem proved : Rows.GateNeverSaid :=
  over
#print axioms proved
end Go.Proofs.Ytdnhhakbkinekaa.gateNever
