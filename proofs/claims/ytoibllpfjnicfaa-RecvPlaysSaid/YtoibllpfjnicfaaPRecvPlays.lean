/-
  RecvPlays returns true whatever the input. No conditions.
-/
import Derived.Test.YtoibllpfjnicfaaFnsA
import Derived.Test.YtoibllpfjnicfaaAbsE
import Derived.Test.YtoibllpfjnicfaaRows
import Derived.WalkKit
import Derived.ProofKit
import Derived.OpenShut
namespace Go.Proofs.Ytoibllpfjnicfaa.recvPlays
open Go Go.ChangeShapes Go.WideShapes Go.ChangeAt Go.RowKit Go.Abs Go.Abs.F
set_option linter.unusedVariables false

theorem bytes_in {s : St} {y : S} (h : NOut s (.sl [.int .u8]) y) : ∃ bs, RB s y bs ∧ ∀ c, own y = some c → c < s.size := by
  obtain ⟨rows, h1, _, h2, h3⟩ := h
  obtain ⟨is, e1, e2⟩ := rows_ints h1
  rw [e1, flatten_one, List.length_map] at h2
  have : ∃ bs : List UInt8, is.map (S.int .u8) = U bs := by
    clear h2 e1
    induction is with
    | nil => exact ⟨[], rfl⟩
    | cons i l ih =>
      obtain ⟨bs, hb⟩ := ih fun j hj => e2 j (by simp [hj])
      obtain ⟨c, rfl⟩ := byte_of (e2 i (by simp))
      exact ⟨c :: bs, by rw [List.map_cons, hb]; rfl⟩
  obtain ⟨bs, hbs⟩ := this
  refine ⟨bs, ?_, h3⟩
  have hl : is.length = bs.length := by
    have := congrArg List.length hbs
    simpa [U] using this
  rw [hbs, hl] at h2
  exact h2

theorem ops_of {s : St} : ∀ {rows : List (List S)}, (∀ r ∈ rows, All2 (NOut s) [.flat (.int .i64), .sl [.int .u8]] r) → ∃ ops : List (Int × Bs), All2 (OpR s) ops rows
  | [], _ => ⟨[], .nil⟩
  | r :: l, h => by
    obtain ⟨ops, ho⟩ := ops_of (rows := l) fun x hx => h x (by simp [hx])
    obtain ⟨a, b, rfl, ha, hb⟩ := all2_two (h r (by simp))
    obtain ⟨n, rfl, hn⟩ := KS.int (k := .i64) ha
    obtain ⟨bs, h1, h2⟩ := bytes_in hb
    refine ⟨(n, bs) :: ops, .cons ⟨b, rfl, h1, h2, ?_⟩ ho⟩
    have h1 : IntKind.i64.min ≤ n ∧ n ≤ IntKind.i64.max := by simpa [Lit.wf] using hn
    have h2 : (-9223372036854775808 : Int) ≤ n ∧ n ≤ 9223372036854775807 := h1
    exact h2.2

theorem knobs : ownKnob Try.prog.godebug = none := by kernel_rfl
theorem laid : laidOutB Try.prog = true := by kernel_rfl

set_option maxRecDepth 100000 in
theorem lifted (os : Os) (started : os.Started) (H : Type) (enc : TypeId × Value → H) :
    ReturnsInHanded {} Try.checked os 3 .any (Rows.recvPlaysSpec.pre6 enc Try.prog Try.f3 Rows.recvPlaysRow.domain false) (Rows.recvPlaysSpec.post enc Try.prog Try.f3 false true false false) := by
  refine returnsInHanded_of_change (C := Try.checked) knobs started (by kernel_rfl) Try.func3
    (ChangeSpec.witness6 (enc := enc) (C := Try.checked) false ⟨#[], #[.slice none 0 0], []⟩ 8 (by kernel_rfl) (by kernel_rfl) (by kernel_rfl) (by kernel_rfl)) ?_
  intro W base args ds gs before hval0 hW hcnd _
  have hval : ∀ (j : Nat) t v, Try.f3.params[j]? = some t → args[j]? = some v → Value.okWide Try.prog W .any base t v := hval0
  have hW' := hW
  obtain ⟨p, q, hA0, hV, rfl, hfz, hnd⟩ := hW
  have hA : DataW.TrodAll enc Try.prog W 0 (fun _ => true) true Try.f3.params.toList args.toList ds p := hA0
  have hAk := hA
  rw [Try.params3] at hA hval
  obtain ⟨v0, vs0, d0, ds0, p0, q0, hargs, rfl, rfl, h0, r0⟩ := trodAll_cons hA
  obtain ⟨rfl, rfl, rfl⟩ := trodAll_nil r0
  obtain rfl : args = #[v0] := by cases args; simp_all
  obtain ⟨rfl, rfl⟩ := trodVars_none hV
  have hC : Calls Try.prog 3 #[v0] W fun e u => e = .returned (.bool true) ∧ Kept W u := by
    have k0 := hval 0 22 v0 rfl rfl
    obtain ⟨σ, x, rows, hi0, hr, hl, rd, ox, _, _⟩ := Inp.nest (ks := [.flat (.int .i64), .sl [.int .u8]]) (n := 3) (Inp.nil W) Try.underlying22 Try.underlying33 (by kernel_rfl) (by kernel_rfl) (by decide) k0 h0
    obtain ⟨ops, ho⟩ := ops_of hr
    obtain ⟨τ, h⟩ := plays_run hi0.wf rd ho ox
    exact calls_inp (runQ_sound prim_sound 8192 _) hi0 h
  clear hA0 hval0
  have hlt : ∀ x ∈ p0 ++ [], x.block < W.heap.size := fun x hx => hW'.lt x (by simpa using hx)
  refine hC.mono fun e W' ⟨he, hg⟩ => ?_
  subst he
  exact ⟨_, rfl, post_kept (pv := []) hW' hg rfl (fun _ _ _ => (trodAll_cons_mk (shut_bool Try.underlying4 _) trodAll_mk0)) (fun sp hsp => trodAll_stays laid hg hAk (by kernel_rfl) hlt (fun x hx => hsp x (by simpa using hx))) (fun _ _ => rfl) (ok_one (by kernel_rfl) rfl (okWide_bool_mk Try.underlying4 _))⟩

theorem over : Rows.recvPlaysRow.holds Try.pinned (OpenSpec.ofChange Rows.recvPlaysSpec) :=
  OpenClaim.holds_of_wide 3 Try.f3 rfl rfl rfl rfl rfl rfl rfl ⟨rfl, rfl, rfl, rfl, rfl⟩ rfl rfl rfl rfl rfl (by kernel_rfl) Try.func3 (by kernel_rfl)
    (of_decide_eq_true (by kernel_rfl)) (by unfold Func.isWrapper; first | (rw [if_pos (by decide +kernel)]; kernel_rfl) | (rw [if_neg (by decide +kernel)]; exact ⟨rfl, rfl⟩))
    (fun os started H enc _ => lifted os started H enc)

theorem proved : Rows.RecvPlaysSaid :=
  over
#print axioms proved
end Go.Proofs.Ytoibllpfjnicfaa.recvPlays

