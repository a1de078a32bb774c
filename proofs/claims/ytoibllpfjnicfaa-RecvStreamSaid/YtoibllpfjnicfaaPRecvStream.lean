/-
  RecvStream returns true whatever the input. No conditions.
-/
import Derived.Test.YtoibllpfjnicfaaFnsA
import Derived.Test.YtoibllpfjnicfaaAbsE
import Derived.Test.YtoibllpfjnicfaaRows
import Derived.WalkKit
import Derived.ProofKit
import Derived.OpenShut
namespace Go.Proofs.Ytoibllpfjnicfaa.recvStream
open Go Go.ChangeShapes Go.WideShapes Go.ChangeAt Go.RowKit Go.Abs Go.Abs.F
set_option linter.unusedVariables false

theorem knobs : ownKnob Try.prog.godebug = none := by kernel_rfl
theorem laid : laidOutB Try.prog = true := by kernel_rfl

set_option maxRecDepth 100000 in
theorem lifted (os : Os) (started : os.Started) (H : Type) (enc : TypeId × Value → H) :
    ReturnsInHanded {} Try.checked os 6 .any (Rows.recvStreamSpec.pre6 enc Try.prog Try.f6 Rows.recvStreamRow.domain false) (Rows.recvStreamSpec.post enc Try.prog Try.f6 false true false false) := by
  refine returnsInHanded_of_change (C := Try.checked) knobs started (by kernel_rfl) Try.func6
    (ChangeSpec.witness6 (enc := enc) (C := Try.checked) false ⟨#[], #[.int .i64 0, .slice none 0 0], []⟩ 8 (by kernel_rfl) (by kernel_rfl) (by kernel_rfl) (by kernel_rfl)) ?_
  intro W base args ds gs before hval0 hW hcnd _
  have hval : ∀ (j : Nat) t v, Try.f6.params[j]? = some t → args[j]? = some v → Value.okWide Try.prog W .any base t v := hval0
  have hW' := hW
  obtain ⟨p, q, hA0, hV, rfl, hfz, hnd⟩ := hW
  have hA : DataW.TrodAll enc Try.prog W 0 (fun _ => true) true Try.f6.params.toList args.toList ds p := hA0
  have hAk := hA
  rw [Try.params6] at hA hval
  obtain ⟨v0, vs0, d0, ds0, p0, q0, hargs, rfl, rfl, h0, r0⟩ := trodAll_cons hA
  obtain ⟨v1, vs1, d1, ds1, p1, q1, rfl, rfl, rfl, h1, r1⟩ := trodAll_cons r0
  obtain ⟨rfl, rfl, rfl⟩ := trodAll_nil r1
  obtain rfl : args = #[v0, v1] := by cases args; simp_all
  obtain ⟨rfl, rfl⟩ := trodVars_none hV
  have hC : Calls Try.prog 6 #[v0, v1] W fun e u => e = .returned (.bool true) ∧ Kept W u := by
    have k0 := hval 0 3 v0 rfl rfl
    have k1 := hval 1 43 v1 rfl rfl
    obtain ⟨rows1, hr1, a1, ha1, ln1, hi1⟩ := Inp.flats2 (ks := [.int .i64]) (n := 3) (Inp.nil W) Try.underlying43 (by kernel_rfl) (by kernel_rfl) k1 h1
    obtain ⟨n0, rfl, rfl, rfl, w0⟩ := open_int Try.underlying3 k0 h0
    have hi0 := hi1.flat (x := .int .i64 n0) fun _ => rfl
    obtain ⟨x1, is1, rfl, rd1, ow1, _⟩ := slInts (s := (St.empty.push (argBlk rows1.flatten))) ha1 hr1 (by exact St.get_push_same _ _)
    have lt1 : ∀ c, own x1 = some c → c < (St.empty.push (argBlk rows1.flatten)).size := fun c hc => by rw [ow1 c hc]; simp
    have wf : (St.empty.push (argBlk rows1.flatten)).wf := (St.wf_push St.wf_empty _)
    obtain ⟨τ, h⟩ := stream_run wf n0 rd1 lt1
    exact calls_inp (runQ_sound prim_sound 8192 _) hi0 h
  clear hA0 hval0
  have hlt : ∀ x ∈ p0 ++ (p1 ++ []), x.block < W.heap.size := fun x hx => hW'.lt x (by simpa using hx)
  refine hC.mono fun e W' ⟨he, hg⟩ => ?_
  subst he
  exact ⟨_, rfl, post_kept (pv := []) hW' hg rfl (fun _ _ _ => (trodAll_cons_mk (shut_bool Try.underlying4 _) trodAll_mk0)) (fun sp hsp => trodAll_stays laid hg hAk (by kernel_rfl) hlt (fun x hx => hsp x (by simpa using hx))) (fun _ _ => rfl) (ok_one (by kernel_rfl) rfl (okWide_bool_mk Try.underlying4 _))⟩

theorem over : Rows.recvStreamRow.holds Try.pinned (OpenSpec.ofChange Rows.recvStreamSpec) :=
  OpenClaim.holds_of_wide 6 Try.f6 rfl rfl rfl rfl rfl rfl rfl ⟨rfl, rfl, rfl, rfl, rfl⟩ rfl rfl rfl rfl rfl (by kernel_rfl) Try.func6 (by kernel_rfl)
    (of_decide_eq_true (by kernel_rfl)) (by unfold Func.isWrapper; first | (rw [if_pos (by decide +kernel)]; kernel_rfl) | (rw [if_neg (by decide +kernel)]; exact ⟨rfl, rfl⟩))
    (fun os started H enc _ => lifted os started H enc)

theorem proved : Rows.RecvStreamSaid :=
  over
#print axioms proved
end Go.Proofs.Ytoibllpfjnicfaa.recvStream

