/-
  A call on plain values that gives plain values may be run in an empty store: the caller's store is as it was.
-/
import Derived.Test.YtgecidicpdobfaaDoorAbsGen
namespace Go.Abs.F
open Go Go.Abs

def plainS : S → Bool
  | .bool _ | .int _ _ | .str _ | .nilp | .nils | .nilm | .nilf | .nili => true
  | .clo _ caps => caps.isEmpty
  | _ => false
def plainV : V → Bool
  | .s x => plainS x
  | .agg l => l.all plainS
def plainT : T → Bool
  | .any => false
  | .v x => plainV x
  | .tup l => l.all plainV

theorem plainS_rel {x : S} {v : Value} {ι κ : Inj} (hp : plainS x = true) (h : SRel ι x v) : SRel κ x v := by
  cases x with
  | ptr i o => cases hp
  | sl i o len cap => cases hp
  | emp i e => cases hp
  | map i => cases hp
  | clo f caps =>
    cases caps with
    | nil =>
      obtain ⟨cs, e, r⟩ := h
      cases r
      exact ⟨[], e, .nil⟩
    | cons a l => cases hp
  | _ => exact h

theorem plainL_rel {l : List S} {vs : List Value} {ι κ : Inj} (hp : l.all plainS = true) (h : All2 (SRel ι) l vs) : All2 (SRel κ) l vs := by
  induction h with
  | nil => exact .nil
  | cons a _ ih =>
    simp only [List.all_cons, Bool.and_eq_true] at hp
    exact .cons (plainS_rel hp.1 a) (ih hp.2)

theorem plainV_rel {x : V} {v : Value} {ι κ : Inj} (hp : plainV x = true) (h : VRel ι x v) : VRel κ x v := by
  cases x with
  | s x => exact plainS_rel hp h
  | agg l => obtain ⟨cs, e, r⟩ := h; exact ⟨cs, e, plainL_rel hp r⟩

theorem plainT_rel {x : T} {v : Value} {ι κ : Inj} (hp : plainT x = true) (h : TRel ι x v) : TRel κ x v := by
  cases x with
  | any => cases hp
  | v x => exact plainV_rel hp h
  | tup l =>
    obtain ⟨cs, e, r⟩ := h
    refine ⟨cs, e, ?_⟩
    clear e
    simp only [plainT] at hp
    induction r with
    | nil => exact .nil
    | cons a _ ih =>
      simp only [List.all_cons, Bool.and_eq_true] at hp
      exact .cons (plainV_rel hp.1 a) (ih hp.2)

theorem plains_rel {ts : List T} {vs : List Value} {ι κ : Inj} (hp : ts.all plainT = true) (h : All2 (TRel ι) ts vs) : All2 (TRel κ) ts vs := by
  induction h with
  | nil => exact .nil
  | cons a _ ih =>
    simp only [List.all_cons, Bool.and_eq_true] at hp
    exact .cons (plainT_rel hp.1 a) (ih hp.2)

/-- Calls of these functions on plain values, each in an empty store. -/
def pureP (callf : CallF) (fs : List Nat) : CallF := fun f ts σ =>
  match fs.contains f && ts.all plainT with
  | false => none
  | true => match callf f ts St.empty with
    | none => none
    | some (r, _) => match plainT r with
      | true => some (r, σ)
      | false => none

theorem pureP_some {callf : CallF} {fs : List Nat} {f : FuncId} {ts : List T} {σ τ : St} {r : T} (h : pureP callf fs f ts σ = some (r, τ)) :
    τ = σ ∧ ts.all plainT = true ∧ plainT r = true ∧ ∃ τ0, callf f ts St.empty = some (r, τ0) := by
  unfold pureP at h
  split at h
  · cases h
  · rename_i hb
    rw [Bool.and_eq_true] at hb
    split at h
    · cases h
    · rename_i q τ0 hq
      split at h
      · rename_i hp
        cases h
        exact ⟨rfl, hb.2, hp, τ0, hq⟩
      · cases h

theorem pureP_sound {P : Program} {callf : CallF} (hs : CallSound P callf) (fs : List Nat) : CallSound P (pureP callf fs) := by
  constructor
  · intro f ts σ t τ h wf
    obtain ⟨rfl, _⟩ := pureP_some h
    exact ⟨wf, Nat.le_refl _⟩
  · intro f ts σ t τ h wf ι w vs hR hF hA
    obtain ⟨rfl, hp, hr, τ0, h0⟩ := pureP_some h
    refine (hs.calls f ts St.empty t τ0 h0 St.wf_empty (fun _ => none) w vs ⟨(fun i L b h => by cases h), (fun i j L M h => by cases h)⟩ (fun _ _ _ => rfl) (plains_rel hp hA)).mono ?_
    intro e u ⟨κ, v, he, hX, _, hT⟩
    have hkeep : ∀ k, k < w.heap.size → u.heap[k]? = w.heap[k]? := fun k hk => hX.keep k hk fun i L hi => by cases hi
    refine ⟨ι, v, he, ⟨Nat.le_refl _, fun _ _ => rfl, fun _ _ h => h, fun _ _ h => h, fun _ _ _ => rfl, fun i L h1 h2 => by omega, hX.os, hX.output, hX.hsize, fun k hk _ => hkeep k hk⟩, ⟨?_, hR.sep⟩, plainT_rel hr hT⟩
    intro i L b hi hb
    have hB := hR.blk i L b hi hb
    cases b with
    | dead => trivial
    | cells own vs => exact hB.congr (hkeep _ (hB.lt trivial))
    | map es => exact hB.congr (hkeep _ (hB.lt trivial))
end Go.Abs.F
namespace Go.Abs.F
open Go Go.Abs

/-- A function without arguments that has been run once: its answer. -/
def toldP (f : Nat) (b : Bool) : CallF := fun g ts σ => match Nat.beq g f && ts.isEmpty with
  | true => some (B b, σ)
  | false => none

theorem sound_mono {P : Program} {c d : CallF} (h : ∀ f ts σ r, c f ts σ = some r → d f ts σ = some r) (hd : CallSound P d) : CallSound P c :=
  ⟨fun f ts σ t τ e => hd.wf f ts σ t τ (h f ts σ _ e), fun f ts σ t τ e => hd.calls f ts σ t τ (h f ts σ _ e)⟩

theorem toldP_sound {P : Program} {callf : CallF} (hs : CallSound P callf) {f : Nat} {b : Bool} (h : gave b (callf f [] St.empty) = true) : CallSound P (toldP f b) := by
  refine sound_mono ?_ (pureP_sound hs [f])
  intro g ts σ r e
  unfold toldP at e
  split at e
  · rename_i hb
    rw [Bool.and_eq_true] at hb
    have h1 := Nat.eq_of_beq_eq_true hb.1
    have h2 : ts = [] := by simpa using hb.2
    subst h1; subst h2
    cases e
    unfold gave at h
    split at h
    · rename_i c τ hc
      have : c = b := by simpa using h
      subst this
      simp only [pureP, hc, List.contains_cons, beq_self_eq_true, Bool.true_or, List.all_nil, Bool.and_self]
      rfl
    · cases h
  · cases e
end Go.Abs.F
namespace Go.Abs.F
open Go Go.Abs

/-- One after the other. -/
def orP (a b : CallF) : CallF := fun f ts σ => match a f ts σ with
  | some r => some r
  | none => b f ts σ

theorem orP_sound {P : Program} {a b : CallF} (ha : CallSound P a) (hb : CallSound P b) : CallSound P (orP a b) := by
  constructor
  · intro f ts σ t τ h
    unfold orP at h
    split at h
    · rename_i r hr
      cases h
      exact ha.wf f ts σ t τ hr
    · exact hb.wf f ts σ t τ h
  · intro f ts σ t τ h
    unfold orP at h
    split at h
    · rename_i r hr
      cases h
      exact ha.calls f ts σ t τ hr
    · exact hb.calls f ts σ t τ h

theorem orP_left {a b : CallF} {f : FuncId} {ts : List T} {σ : St} {r : T × St} (h : a f ts σ = some r) : orP a b f ts σ = some r := by
  simp only [orP, h]

theorem orP_right {a b : CallF} {f : FuncId} {ts : List T} {σ : St} (h : a f ts σ = none) : orP a b f ts σ = b f ts σ := by
  simp only [orP, h]
end Go.Abs.F
namespace Go.Abs.F
open Go Go.Abs

theorem pureP_val {callf : CallF} {fs : List Nat} {f : FuncId} {ts : List T} {σ : St} {r : T} (hb : (fs.contains f && ts.all plainT) = true) (h : Option.map Prod.fst (callf f ts St.empty) = some r) (hr : plainT r = true) :
    pureP callf fs f ts σ = some (r, σ) := by
  rw [Option.map_eq_some_iff] at h
  obtain ⟨x, h, rfl⟩ := h
  simp only [pureP, hb, h, hr]
end Go.Abs.F
