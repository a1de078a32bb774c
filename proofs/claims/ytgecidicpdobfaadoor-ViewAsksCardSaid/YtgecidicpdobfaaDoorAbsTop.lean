/-
  From an abstract run to the frame of a statement: the call gives that bool, and what was there reads as before.
-/
import Derived.Test.YtgecidicpdobfaaDoorAbsCode3
import Derived.WalkKit
import Derived.ProofKit
import Derived.OpenShut
namespace Go.Abs
open Go Go.ChangeShapes

/-- Nothing that was there has changed. -/
def Kept (W u : World) : Prop := u.os = W.os ∧ u.output = W.output ∧ W.heap.size ≤ u.heap.size ∧ ∀ k, k < W.heap.size → u.heap[k]? = W.heap[k]?

theorem Kept.but {W u : World} (h : Kept W u) (may : MemPlace → Prop) : W.keptBut u may := by
  refine ⟨h.1, h.2.1, fun i hi => ?_⟩
  rw [h.2.2.2 i hi]
  cases W.heap[i]? with
  | none => trivial
  | some o => cases o with
    | cells c t fr => exact ⟨rfl, rfl, rfl, fun _ _ => rfl⟩
    | map es clock => exact .inr ⟨rfl, rfl⟩
    | _ => rfl

theorem Kept.frozen {W u : World} (h : Kept W u) {a : Addr} (ha : a.block < W.heap.size) : u.frozen? a = W.frozen? a := by
  unfold World.frozen?
  rw [h.2.2.2 _ ha]

theorem calls_of_run {P : Program} {callf : CallF} (hs : CallSound P callf) {f : FuncId} {ts : List T} {vs : List Value} {σ τ : St} {ι : Inj} {W : World} {b : Bool}
    (h : callf f ts σ = some (B b, τ)) (wf : σ.wf) (hR : Rel ι σ.get W) (hF : Free ι σ.size τ.size) (hA : All2 (TRel ι) ts vs)
    (hc : ∀ i L, i < σ.size → ι i = some L → ¬ live (σ.get i)) :
    Calls P f vs.toArray W fun e u => e = .returned (.bool b) ∧ Kept W u := by
  refine (hs.calls f ts σ _ τ h wf ι W vs hR hF hA).mono fun e u ⟨κ, v, he, hX, _, hT⟩ => ?_
  have hv : v = .bool b := hT
  subst hv
  exact ⟨he, hX.os, hX.output, hX.hsize, fun k hk => hX.keep k hk fun i L hi hL hl => absurd hl (hc i L hi hL)⟩

theorem calls_plain {P : Program} {callf : CallF} (hs : CallSound P callf) {f : FuncId} {ts : List T} {vs : List Value} {τ : St} {W : World} {b : Bool}
    (h : callf f ts St.empty = some (B b, τ)) (hA : All2 (TRel fun _ => none) ts vs) : Calls P f vs.toArray W fun e u => e = .returned (.bool b) ∧ Kept W u :=
  calls_of_run hs h St.wf_empty ⟨(fun i L b h => by cases h), (fun i j L M h => by cases h)⟩ (fun i _ _ => rfl) hA (fun i L hi => by cases hi)

section
variable {H : Type} {enc : TypeId × Value → H} {P : Program}
/-- What is read behind a call that has changed nothing. -/
theorem post_kept {f : Func} {s : ChangeSpec} {apart fresh handsOn again : Bool} {W u : World} {args : Array Value} {v : Value} {ds gs : List (DataW H)} {before pa pv : List MemPlace}
    (hW : DataW.Whole enc P f.params.toList s.vars apart W args.toList ds gs before) (hk : Kept W u) (hps : before = pa ++ pv)
    (hres : ∀ (b : Nat) (sp : Nat → Bool) (hd : Bool), DataW.TrodAll enc P u b sp hd f.resultTypes.toList (v.resultList f.resultTypes.size) (s.fn H (ds ++ gs)).results [])
    (hargs : ∀ sp : Nat → Bool, (∀ p ∈ before, sp p.block = true) → DataW.TrodAll enc P u 0 sp true f.params.toList args.toList (s.fn H (ds ++ gs)).args pa)
    (hvars : ∀ sp : Nat → Bool, (∀ p ∈ before, sp p.block = true) → DataW.TrodVars enc P u sp s.vars (s.fn H (ds ++ gs)).vars pv)
    (hok : ∀ (j : Nat) (t : TypeId) (r : Value), f.resultTypes[j]? = some t → (v.resultList f.resultTypes.size)[j]? = some r → Value.okWide P u .any 0 t r) :
    s.post enc P f apart fresh handsOn again W args v u := by
  have lt := hW.lt
  have old : ∀ p ∈ before, (fun b => decide (b < W.heap.size)) p.block = true := fun p hp => decide_eq_true (lt p hp)
  have yes : ∀ p ∈ before, (fun _ : Nat => true) p.block = true := fun _ _ => rfl
  have whole := hW
  obtain ⟨p1, p2, w1, w2, w3, noFrozen, apart'⟩ := hW
  refine ⟨ds, gs, before, [], pa, pv, whole, hres _ _ _, hargs _ old, hvars _ old, World.keptBut_mono (fun _ h => h.elim) (hk.but fun _ => False), fun _ => ⟨hok, (s.fn H (ds ++ gs)).results ++ (s.fn H (ds ++ gs)).args, (s.fn H (ds ++ gs)).vars, pa ++ pv, ?_, fun p hp _ => by rw [hps]; exact hp⟩⟩
  refine ⟨[] ++ pa, pv, ?_, hvars _ yes, rfl, fun b off hp => ?_, fun ha => ?_⟩
  · have h1 := hargs (fun _ => true) yes
    have h2 := hres 0 (fun _ => true) true
    exact trodAll_append h1 h2
  · have hp' : MemPlace.cell b off ∈ before := by rw [hps]; exact hp
    rw [hk.frozen (lt _ hp')]
    exact noFrozen b off hp'
  · rw [← hps]
    exact apart' ha
end
end Go.Abs
